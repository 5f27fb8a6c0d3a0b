/- Own texts behind the statement SpecialAsks, one behind the other (part 1 of 2). Each bears its own remark. -/
import Derived.WalkKit
import Derived.Laws.BytesArg
import Derived.Laws.BitsLemmas
import Derived.Lib.Hide
import Derived.StillTailTactics
import Derived.Lib.AppendZerosOnto
import Derived.Laws.CopyOwn
import Derived.Deep.WholeRow
import Derived.Deep.QuietTactic
import Derived.BigQuiet
import Derived.Lib.ConvBytes
import Derived.Test.YtbcicfgffjgpdaaRows
import Derived.ProofKit
import Derived.OpenShut
import Derived.ShutString
import Derived.ChangeOld
import Derived.Below
import Derived.Test.YtbcicfgffjgpdaaProg
import Derived.KernelRfl
import Derived.WalkLawsBesides
import Derived.WalkSpells
import Derived.LoopN
import Derived.Handy
import Derived.Deep.Cut
import Derived.Deep.CutBlock
import Derived.DeepKeys4
import Derived.WideKeyMaps
import Derived.Deep.AppendLies
import Derived.Deep.RegionLaw
import Derived.Deep.Slices
import Derived.Deep.Fields
import Derived.BigRegion
/- Rows of whole numbers in memory: read, owned, appended to; what a call may turn (typed frames). No condition. -/
set_option linter.unusedVariables false
set_option linter.unusedSimpArgs false
namespace Go.Proofs.Ytbcicfgffjgpdaa
open Go Go.RowKit

/-- The number at place j; 0 beyond the end. -/
def nth (xs : List Int) (j : Nat) : Int := xs.getD j 0
theorem nth_lt {xs : List Int} {j : Nat} (h : j < xs.length) : xs[j]? = some (nth xs j) := by
  simp [nth, List.getElem?_eq_getElem h]
theorem nth_append_left {xs ys : List Int} {j : Nat} (h : j < xs.length) : nth (xs ++ ys) j = nth xs j := by
  simp [nth, List.getElem?_append_left h]
theorem nth_append_right {xs ys : List Int} {j : Nat} (h : xs.length ≤ j) : nth (xs ++ ys) j = nth ys (j - xs.length) := by
  simp [nth, List.getElem?_append_right h]
theorem ext_nth {xs ys : List Int} (hl : xs.length = ys.length) (h : ∀ j, j < xs.length → nth xs j = nth ys j) : xs = ys := by
  apply List.ext_getElem? 
  intro j
  by_cases hj : j < xs.length
  · rw [nth_lt hj, nth_lt (hl ▸ hj), h j hj]
  · rw [List.getElem?_eq_none (by omega), List.getElem?_eq_none (by omega)]
theorem nth_drop (xs : List Int) (i j : Nat) : nth (xs.drop i) j = nth xs (i + j) := by simp [nth, List.getElem?_drop]
theorem nth_take {xs : List Int} {i j : Nat} (h : j < i) : nth (xs.take i) j = nth xs j := by simp [nth, List.getElem?_take, h]
theorem take_nth_succ {xs : List Int} {k : Nat} (h : k < xs.length) : xs.take (k + 1) = xs.take k ++ [nth xs k] := by
  rw [List.take_add_one, nth_lt h]; rfl
theorem nth_mem {xs : List Int} {j : Nat} (h : j < xs.length) : nth xs j ∈ xs := by
  have := nth_lt h
  exact List.mem_of_getElem? this

/-- Types of blocks that are turned behind a pointer: tables, minds and their kin. -/
def spT (t : Nat) : Bool := List.elem t [
  68,
  47,
  58,
  0]

/-- A row of whole numbers of kind k that is read at A. -/
def RdI (w : World) (k : IntKind) (A : Option Addr) (xs : List Int) : Prop :=
  ∀ j, j < xs.length → ∃ ad, A = some ad ∧ w.cell? (ad.add j) = some (.int k (nth xs j))

/-- The block of A is from before B, or no special one. -/
def Sf (B : Nat) (w : World) (A : Option Addr) : Prop := ∀ a, A = some a → a.block < w.heap.size ∧ (a.block < B ∨ ∃ cs t fr, w.heap[a.block]? = some (.cells cs t fr) ∧ spT t = false)

/-- The slice value A, n, c reads as xs. -/
structure Rds (B : Nat) (w : World) (k : IntKind) (A : Option Addr) (n c : Nat) (xs : List Int) : Prop where
  len : xs.length = n
  cap : n ≤ c
  max : c ≤ 9223372036854775807
  cell : RdI w k A xs
  safe : 0 < n → Sf B w A

def RdV (B : Nat) (w : World) (k : IntKind) (v : Value) (xs : List Int) : Prop := ∃ A c, v = .slice A xs.length c ∧ Rds B w k A xs.length c xs

theorem RdI.at_ {w : World} {k : IntKind} {A : Option Addr} {xs : List Int} (h : RdI w k A xs) (h0 : 0 < xs.length) :
    ∃ b o, A = some ⟨b, o, none⟩ ∧ ∀ j, j < xs.length → w.cell? ⟨b, o + j, none⟩ = some (.int k (nth xs j)) := by
  obtain ⟨ad, rfl, h1⟩ := h 0 h0
  have hs : ad.spot = none := by
    unfold World.cell? at h1
    cases hsp : ad.spot with
    | none => rfl
    | some _ => simp [Addr.add, hsp] at h1; split at h1 <;> simp_all
  obtain ⟨b, o, s⟩ := ad
  simp at hs
  subst hs
  refine ⟨b, o, rfl, fun j hj => ?_⟩
  obtain ⟨ad2, he, hc⟩ := h j hj
  cases he
  rw [← hc]
  congr 1
  unfold Addr.add
  split <;> simp_all
theorem RdI.nil (w : World) (k : IntKind) (A : Option Addr) : RdI w k A [] := fun j hj => by simp at hj
theorem RdI.drewN {w : World} {k : IntKind} {A : Option Addr} {xs : List Int} (h : RdI w k A xs) (q : Nat) : RdI (w.drewN q) k A xs := fun j hj => by
  obtain ⟨ad, e, hc⟩ := h j hj
  exact ⟨ad, e, by simpa using hc⟩
theorem addr_add (g o j : Nat) : (⟨g, o, none⟩ : Addr).add j = ⟨g, o + j, none⟩ := by unfold Addr.add; split <;> simp_all

theorem below_drewN {B : Nat} {w W : World} (h : Below B w W) (n : Nat) : Below B w (W.drewN n) := ⟨h.os, h.tape, h.output, h.size, h.block⟩
theorem below_next {B : Nat} {w w1 w2 : World} (h : Below B w w1) (hB : B ≤ w1.heap.size) (k : Below w1.heap.size w1 w2) : Below B w w2 :=
  h.trans ⟨k.os, k.tape, k.output, k.size, fun i hi => k.block i (Nat.lt_of_lt_of_le hi hB)⟩
theorem below_step {w w1 w2 : World} (h : Below w.heap.size w w1) (k : Below w1.heap.size w1 w2) : Below w.heap.size w w2 := below_next h h.size k
theorem grown_of_below {w w1 : World} (h : Below w.heap.size w w1) (row : Option Nat) : w.grownBy w1 row := ⟨h.os, h.tape, h.output, h.size, fun i hi _ => h.block i hi⟩

theorem alloc_old {w : World} {o : Obj} {k : Nat} (h : k < w.heap.size) : (w.alloc o).heap[k]? = w.heap[k]? := Below.heap_alloc w o k h
/-! ### Typed frames -/
/-- From w to w' only blocks from B on turned, and of those that were there only such as C names. -/
structure Frm (C : Obj → Bool) (B : Nat) (w w' : World) : Prop where
  os : w'.os = w.os
  tape : w'.tape = w.tape
  output : w'.output = w.output
  size : w.heap.size ≤ w'.heap.size
  block : ∀ k o, w.heap[k]? = some o → (k < B ∨ C o = false) → w'.heap[k]? = some o
theorem Frm.refl (C : Obj → Bool) (B : Nat) (w : World) : Frm C B w w := ⟨rfl, rfl, rfl, Nat.le_refl _, fun _ _ h _ => h⟩
theorem Frm.trans {C : Obj → Bool} {B : Nat} {a b c : World} (h : Frm C B a b) (k : Frm C B b c) : Frm C B a c :=
  ⟨k.os.trans h.os, k.tape.trans h.tape, k.output.trans h.output, Nat.le_trans h.size k.size, fun i o hi hc => k.block i o (h.block i o hi hc) hc⟩
theorem lt_of_get {w : World} {k : Nat} {o : Obj} (h : w.heap[k]? = some o) : k < w.heap.size := (Array.getElem?_eq_some_iff.1 h).1
theorem Frm.of_below {C : Obj → Bool} {B : Nat} {w w' : World} (h : Below w.heap.size w w') : Frm C B w w' :=
  ⟨h.os, h.tape, h.output, h.size, fun k o hk _ => (h.block k (lt_of_get hk)).trans hk⟩
theorem Frm.below {C : Obj → Bool} {B : Nat} {w w' : World} (h : Frm C B w w') (hB : B ≤ w.heap.size) : Below B w w' :=
  ⟨h.os, h.tape, h.output, h.size, fun k hk => by
    have hk' : k < w.heap.size := by omega
    have e : w.heap[k]? = some w.heap[k] := Array.getElem?_eq_getElem hk'
    rw [e]; exact h.block k _ e (.inl hk)⟩
theorem Frm.weak {C : Obj → Bool} {B B' : Nat} {w w' : World} (h : Frm C B w w') (hB : B' ≤ B) : Frm C B' w w' :=
  ⟨h.os, h.tape, h.output, h.size, fun k o hk hc => h.block k o hk (hc.imp (fun x => by omega) id)⟩
theorem Frm.drewN {C : Obj → Bool} {B : Nat} {w w' : World} (h : Frm C B w w') (n : Nat) : Frm C B w (w'.drewN n) := ⟨h.os, h.tape, h.output, h.size, h.block⟩

/-- Only special blocks turn. -/
def spO : Obj → Bool
  | .cells _ t _ => spT t
  | .map _ _ => true
  | _ => false

theorem Sf.of_lt {B : Nat} {w : World} {A : Option Addr} (h : ∀ a, A = some a → a.block < B ∧ a.block < w.heap.size) : Sf B w A := fun a e => ⟨(h a e).2, .inl (h a e).1⟩
theorem Sf.none (B : Nat) (w : World) : Sf B w none := fun a e => by cases e
theorem Sf.frm {B : Nat} {w w' : World} {A : Option Addr} (h : Sf B w A) (hf : Frm spO B w w') : Sf B w' A := fun a e => by
  obtain ⟨h1, h2⟩ := h a e
  refine ⟨Nat.lt_of_lt_of_le h1 hf.size, ?_⟩
  rcases h2 with h2 | ⟨cs, t, fr, hb, ht⟩
  · exact .inl h2
  · exact .inr ⟨cs, t, fr, hf.block _ _ hb (.inr (by simpa [spO] using ht)), ht⟩
theorem same_block {B : Nat} {w w' : World} {a : Addr} (hs : a.block < w.heap.size ∧ (a.block < B ∨ ∃ cs t fr, w.heap[a.block]? = some (.cells cs t fr) ∧ spT t = false)) (hf : Frm spO B w w') : w'.heap[a.block]? = w.heap[a.block]? := by
  have e : w.heap[a.block]? = some w.heap[a.block] := Array.getElem?_eq_getElem hs.1
  rcases hs.2 with h2 | ⟨cs, t, fr, hb, ht⟩
  · rw [e]; exact hf.block _ _ e (.inl h2)
  · rw [hb]; exact hf.block _ _ hb (.inr (by simpa [spO] using ht))
theorem add_block (a : Addr) (j : Nat) : (a.add j).block = a.block := by unfold Addr.add; split <;> rfl
theorem RdI.frm {B : Nat} {w w' : World} {k : IntKind} {A : Option Addr} {xs : List Int} (h : RdI w k A xs) (hs : 0 < xs.length → Sf B w A) (hf : Frm spO B w w') : RdI w' k A xs := fun j hj => by
  obtain ⟨ad, e, hc⟩ := h j hj
  refine ⟨ad, e, ?_⟩
  rw [← hc]
  exact World.cell?_of_block (by rw [add_block]; exact same_block (hs (by omega) ad e) hf)
theorem Rds.frm {B : Nat} {w w' : World} {k : IntKind} {A : Option Addr} {n c : Nat} {xs : List Int} (h : Rds B w k A n c xs) (hf : Frm spO B w w') : Rds B w' k A n c xs :=
  ⟨h.len, h.cap, h.max, h.cell.frm (fun p => h.safe (by have := h.len; omega)) hf, fun p => (h.safe p).frm hf⟩
theorem RdV.frm {B : Nat} {w w' : World} {k : IntKind} {v : Value} {xs : List Int} (h : RdV B w k v xs) (hf : Frm spO B w w') : RdV B w' k v xs := by
  obtain ⟨A, c, e, hr⟩ := h
  exact ⟨A, c, e, hr.frm hf⟩
theorem Rds.below {B : Nat} {w w' : World} {k : IntKind} {A : Option Addr} {n c : Nat} {xs : List Int} (h : Rds B w k A n c xs) (hf : Below w.heap.size w w') : Rds B w' k A n c xs := h.frm (.of_below hf)
theorem RdV.below {B : Nat} {w w' : World} {k : IntKind} {v : Value} {xs : List Int} (h : RdV B w k v xs) (hf : Below w.heap.size w w') : RdV B w' k v xs := h.frm (.of_below hf)
theorem Rds.nil (B : Nat) (w : World) (k : IntKind) : Rds B w k none 0 0 [] := ⟨rfl, Nat.le_refl _, by omega, RdI.nil _ _ _, fun _ => Sf.none _ _⟩
theorem RdV.nil (B : Nat) (w : World) (k : IntKind) : RdV B w k (.slice none 0 0) [] := ⟨none, 0, rfl, Rds.nil _ _ _⟩
theorem Rds.drewN {B : Nat} {w : World} {k : IntKind} {A : Option Addr} {n c : Nat} {xs : List Int} (h : Rds B w k A n c xs) (q : Nat) : Rds B (w.drewN q) k A n c xs := h.frm ((Frm.refl _ _ _).drewN q)
theorem Rds.mono {B B' : Nat} {w : World} {k : IntKind} {A : Option Addr} {n c : Nat} {xs : List Int} (h : Rds B w k A n c xs) (hB : B ≤ B') : Rds B' w k A n c xs :=
  ⟨h.len, h.cap, h.max, h.cell, fun p a e => ⟨(h.safe p a e).1, (h.safe p a e).2.imp (fun x => by omega) id⟩⟩

theorem Rds.take {B : Nat} {w : World} {k : IntKind} {A : Option Addr} {n c : Nat} {xs : List Int} (h : Rds B w k A n c xs) {m : Nat} (hm : m ≤ n) : Rds B w k A m c (xs.take m) :=
  ⟨by have := h.len; simp; omega, by have := h.cap; omega, h.max, fun j hj => by
    have hj' : j < m := by simp at hj; omega
    rw [nth_take hj']
    exact h.cell j (by have := h.len; omega), fun p => h.safe (by omega)⟩
theorem Rds.drop {B : Nat} {w : World} {k : IntKind} {b o : Nat} {n c : Nat} {xs : List Int} (h : Rds B w k (some ⟨b, o, none⟩) n c xs) {m : Nat} (hm : m ≤ n) (A : Option Addr) (hA : ¬ c = m → A = some ⟨b, o + m, none⟩) (hA' : c = m → A = some ⟨b, o, none⟩) : Rds B w k A (n - m) (c - m) (xs.drop m) := by
  refine ⟨by have := h.len; simp; omega, by have := h.cap; omega, by have := h.max; omega, fun j hj => ?_, fun p a e => ?_⟩
  · have hl := h.len
    have hc := h.cap
    have hj' : m + j < n := by simp at hj; omega
    rw [hA (by omega), nth_drop]
    obtain ⟨ad, e, hcell⟩ := h.cell (m + j) (by omega)
    cases e
    refine ⟨_, rfl, ?_⟩
    rw [addr_add] at hcell ⊢
    rw [Nat.add_assoc]
    exact hcell
  · by_cases hh : c = m
    · rw [hA' hh] at e; cases e; exact h.safe (by omega) _ rfl
    · rw [hA hh] at e; cases e; exact h.safe (by omega) ⟨b, o, none⟩ rfl

/-! ### Rows of the call's own -/
/-- v is a row of whole numbers that starts at the head of a block from B on, or has no room. -/
def OwnI (w : World) (B : Nat) (k : IntKind) (v : Value) (xs : List Int) : Prop :=
  (xs = [] ∧ v = .slice none 0 0) ∨
  ∃ g cap cur t, v = .slice (some ⟨g, 0, none⟩) xs.length cap ∧ B ≤ g ∧ w.heap[g]? = some (.cells cur t (0, 0)) ∧ spT t = false ∧ xs.length ≤ cap ∧ cap ≤ cur.size ∧ cap ≤ 9223372036854775807 ∧
    cur.toList.take xs.length = xs.map (.int k)

theorem OwnI.nil (w : World) (B : Nat) (k : IntKind) : OwnI w B k (.slice none 0 0) [] := .inl ⟨rfl, rfl⟩
theorem OwnI.mono {w : World} {B B' : Nat} {k : IntKind} {v : Value} {xs : List Int} (h : OwnI w B k v xs) (hB : B' ≤ B) : OwnI w B' k v xs := by
  rcases h with h | ⟨g, cap, cur, t, e, hb, r⟩
  · exact .inl h
  · exact .inr ⟨g, cap, cur, t, e, by omega, r⟩
theorem OwnI.new {w' : World} {B : Nat} {k : IntKind} {xs : List Int} {cur : Array Value} {t cap n : Nat} {g : Nat} (hb : w'.heap[g]? = some (.cells cur t (0, 0))) (hg : B ≤ g) (ht : spT t = false)
    (hn : xs.length = n) (h1 : n ≤ cap) (h2 : cap ≤ cur.size) (h3 : cap ≤ 9223372036854775807) (hc : cur.toList.take n = xs.map (.int k)) : OwnI w' B k (.slice (some ⟨g, 0, none⟩) n cap) xs := by
  subst hn
  exact .inr ⟨g, cap, cur, t, rfl, hg, hb, ht, h1, h2, h3, hc⟩
theorem OwnI.rd {w : World} {B B' : Nat} {k : IntKind} {v : Value} {xs : List Int} (h : OwnI w B k v xs) : RdV B' w k v xs := by
  rcases h with ⟨rfl, rfl⟩ | ⟨g, cap, cur, t, rfl, hb, hg, ht, h1, h2, h3, hc⟩
  · exact RdV.nil _ _ _
  · refine ⟨some ⟨g, 0, none⟩, cap, rfl, rfl, h1, h3, fun j hj => ⟨_, rfl, ?_⟩, fun _ a e => ?_⟩
    · rw [addr_add, Nat.zero_add, cell_of_row w g j cur t (0, 0) hg]
      have : (cur.toList.take xs.length)[j]? = some (.int k (nth xs j)) := by rw [hc, List.getElem?_map, nth_lt hj]; rfl
      rw [List.getElem?_take] at this
      simpa [hj] using this
    · cases e
      exact ⟨lt_of_get hg, .inr ⟨cur, t, _, hg, ht⟩⟩
theorem OwnI.rds {w : World} {B B' : Nat} {k : IntKind} {A : Option Addr} {n c : Nat} {xs : List Int} (h : OwnI w B k (.slice A n c) xs) : Rds B' w k A n c xs := by
  obtain ⟨A', c', e, hr⟩ := h.rd (B' := B')
  injection e with e1 e2 e3
  subst e1; subst e2; subst e3
  exact hr
theorem OwnI.kept {w w' : World} {B : Nat} {k : IntKind} {v : Value} {xs : List Int} (h : OwnI w B k v xs) {row : Option Nat} (hg : w.grownBy w' row) (hne : v.ownBlock = none ∨ v.ownBlock ≠ row) : OwnI w' B k v xs := by
  rcases h with h | ⟨g, cap, cur, t, rfl, hb, hgg, r⟩
  · exact .inl h
  · refine .inr ⟨g, cap, cur, t, rfl, hb, ?_, r⟩
    rw [hg.block g (lt_of_get hgg) (by simpa [Value.ownBlock] using hne)]
    exact hgg
theorem OwnI.frm {w w' : World} {B : Nat} {k : IntKind} {v : Value} {xs : List Int} (h : OwnI w B k v xs) {B' : Nat} (hf : Frm spO B' w w') : OwnI w' B k v xs := by
  rcases h with h | ⟨g, cap, cur, t, rfl, hb, hgg, ht, r⟩
  · exact .inl h
  · exact .inr ⟨g, cap, cur, t, rfl, hb, hf.block _ _ hgg (.inr (by simpa [spO] using ht)), ht, r⟩
theorem OwnI.below {w w' : World} {B : Nat} {k : IntKind} {v : Value} {xs : List Int} (h : OwnI w B k v xs) (hf : Below w.heap.size w w') : OwnI w' B k v xs := h.frm (B' := 0) (.of_below hf)
theorem OwnI.lt {w : World} {B : Nat} {k : IntKind} {v : Value} {xs : List Int} (h : OwnI w B k v xs) : ∀ q, v.ownBlock = some q → B ≤ q ∧ q < w.heap.size := by
  intro q hq
  rcases h with ⟨_, rfl⟩ | ⟨g, cap, cur, t, rfl, hb, hgg, _⟩
  · simp [Value.ownBlock] at hq
  · simp [Value.ownBlock] at hq
    subst hq
    exact ⟨hb, lt_of_get hgg⟩
theorem OwnI.slice {w : World} {B : Nat} {k : IntKind} {v : Value} {xs : List Int} (h : OwnI w B k v xs) : ∃ A c, v = .slice A xs.length c := by
  rcases h with ⟨rfl, rfl⟩ | ⟨g, cap, cur, t, rfl, _⟩
  · exact ⟨none, 0, rfl⟩
  · exact ⟨_, _, rfl⟩
theorem OwnI.form {w : World} {B : Nat} {k : IntKind} {v : Value} {xs : List Int} (h : OwnI w B k v xs) (h0 : 0 < xs.length) : ∃ g cap, v = .slice (some ⟨g, 0, none⟩) xs.length cap ∧ B ≤ g ∧ g < w.heap.size ∧ xs.length ≤ cap ∧
    (∀ j, j < xs.length → w.cell? ⟨g, j, none⟩ = some (.int k (nth xs j))) ∧ (∀ j, w.frozen? ⟨g, j, none⟩ = false) ∧ (∀ j x, j < xs.length → OwnI (w.setCell ⟨g, j, none⟩ (.int k x)) B k v (xs.set j x)) := by
  rcases h with ⟨rfl, _⟩ | ⟨g, cap, cur, t, rfl, hb, hg, ht, h1, h2, h3, hc⟩
  · simp at h0
  · refine ⟨g, cap, rfl, hb, lt_of_get hg, h1, fun j hj => ?_, fun j => frozen_of_row w g j cur t hg, fun j x hj => ?_⟩
    · rw [cell_of_row w g j cur t (0, 0) hg]
      have : (cur.toList.take xs.length)[j]? = some (.int k (nth xs j)) := by rw [hc, List.getElem?_map, nth_lt hj]; rfl
      rw [List.getElem?_take] at this
      simpa [hj] using this
    · refine .inr ⟨g, cap, cur.setIfInBounds j (.int k x), t, by simp, hb, ?_, ht, by simpa using h1, by simpa using h2, h3, ?_⟩
      · exact heap_setCell_same w g j cur t _ hg
      · simp only [Array.toList_setIfInBounds, List.length_set]
        rw [List.take_set, hc, List.map_set]
/-- A block of numbers just made, and the slice over it. -/
theorem OwnI.fresh {w : World} {B : Nat} {k : IntKind} {xs : List Int} {t : Nat} (hB : B ≤ w.heap.size) (ht : spT t = false) (hm : xs.length ≤ 9223372036854775807) :
    OwnI (w.alloc (.cells (xs.map (Value.int k)).toArray t)) B k (.slice (some ⟨w.heap.size, 0, none⟩) xs.length xs.length) xs :=
  .inr ⟨w.heap.size, xs.length, _, t, rfl, hB, heap_alloc_new w _, ht, Nat.le_refl _, by simp, hm, by simp [List.take_of_length_le]⟩
theorem OwnI.setBelow {w : World} {B : Nat} {k : IntKind} {v : Value} {xs : List Int} (h : OwnI w B k v xs) {p : Addr} (hp : p.block < B) (u : Value) : OwnI (w.setCell p u) B k v xs := by
  rcases h with h | ⟨g, cap, cur, t, rfl, hb, hgg, r⟩
  · exact .inl h
  · refine .inr ⟨g, cap, cur, t, rfl, hb, ?_, r⟩
    rw [Below.heap_setCell w p u g (by omega)]
    exact hgg
/-- The row of no element. -/
theorem OwnI.empty {w : World} {B : Nat} {k : IntKind} {t : Nat} (hB : B ≤ w.heap.size) (ht : spT t = false) : OwnI (w.alloc (.cells #[] t)) B k (.slice (some ⟨w.heap.size, 0, none⟩) 0 0) [] :=
  OwnI.fresh (xs := []) hB ht (by decide)
theorem RdI.one (w : World) (k : IntKind) (x : Int) (t : Nat) : RdI (w.alloc (.cells #[.int k x] t)) k (some ⟨w.heap.size, 0, none⟩) [x] := fun j hj => by
  have : j = 0 := by simp at hj; exact hj
  subst this
  exact ⟨_, rfl, by rw [addr_add]; simp [nth]⟩
theorem RdI.one_at (w : World) (k : IntKind) (x : Int) (t : Nat) {g : Nat} (hg : w.heap.size = g) : RdI (w.alloc (.cells #[.int k x] t)) k (some ⟨g, 0, none⟩) [x] := by
  subst hg; exact RdI.one w k x t
theorem replicate_snoc (k : Nat) (x : Int) : List.replicate k x ++ [x] = List.replicate (k + 1) x := by rw [List.replicate_succ']
theorem below_new {w : World} (o : Obj) : Below w.heap.size w (w.alloc o) := (Below.refl _ _).alloc (Nat.le_refl _) o

theorem i64_or (x y : Int) (i : Nat) (hx₀ : 0 ≤ x) (hx : x % 2 ^ i = 0) (hx₁ : x < 9223372036854775808) (h₀ : 0 ≤ y) (h₁ : y < 2 ^ i) (h₂ : y < 9223372036854775808) : bits .or .i64 x y = x + y :=
  bits_join .i64 63 (by decide) (fun n h0 h1 => by rw [IntKind.wrap_i64]; omega) i x y hx₀ hx (by omega) h₀ h₁ (by omega)
/-! ### append -/
section
variable {P : Program}
theorem run_store_none (a : Addr) (w : World) : (storeCells a []).run P w = .ok () w := by simp [storeCells]

theorem run_app_nil_src {w : World} (t ty e : Nat) (i : TypeInfo) (ht : P.underlying t = some (.slice e)) (hi : P.info? e = some i) (A0 : Option Addr) (n cap : Nat) (hc : n ≤ cap) (A : Option Addr) (c : Nat) :
    (Builtin.append_ #[t, t] ty #[.slice A0 n cap, .slice A 0 c]).run P w = .ok (.slice A0 n cap) w := by
  cases A0 <;> cases A <;> simp [Builtin.append_, run_underlying ht, sizeOf, typeInfo, hi, Builtin.lenOf, hc, Builtin.firstCells, loadCells, loadCellsFrom, run_store_none]

theorem run_app_room {w : World} (t ty e : Nat) (i : TypeInfo) (ht : P.underlying t = some (.slice e)) (hi : P.info? e = some i) (hs : i.size = 1)
    (g n cap : Nat) (cur : Array Value) (T : Nat) (hg : w.heap[g]? = some (.cells cur T (0, 0))) (a : Addr) (m c : Nat) (news : List Value) (hl : news.length = m)
    (hnews : ∀ j u, news[j]? = some u → w.cell? (a.add j) = some u) (h1 : ∀ u ∈ news, u.oneCell' = true) (hroom : n + m ≤ cap) (hfit : n + m ≤ cur.size) :
    (Builtin.append_ #[t, t] ty #[.slice (some ⟨g, 0, none⟩) n cap, .slice (some a) m c]).run P w =
      .ok (.slice (some ⟨g, 0, none⟩) (n + m) cap) (w.setRow g (cur.toList.take n ++ news ++ cur.toList.drop (n + m)).toArray) := by
  have hf := run_firstCells_some (P := P) w i.size m a m c news (by rw [hs]; omega) hnews
  have hst := run_storeCells_at P g (n * i.size) T news 0 cur w hg (by rw [hs]; omega) h1
  rw [hs] at hf hst
  simp only [Nat.add_zero, Nat.mul_one, hl] at hst
  try simp only [Nat.mul_one] at hf
  simp [Builtin.append_, run_underlying ht, sizeOf, typeInfo, hi, hs, Builtin.lenOf, hroom, hf, Addr.add_lit, hst]

/-- append of a row that is read to a row of the call's own. -/
theorem run_app {w : World} (t ty e : Nat) (i : TypeInfo) (z : Value) (k : IntKind) (bytes : Nat) (ht : P.underlying t = some (.slice e)) (hi : P.info? e = some i) (hz : i.zero = some z) (hs : i.size = 1) (hby : i.bytes = bytes) (hzs : z.cells.size = 1) (he : spT e = false)
    {B : Nat} {v : Value} {xs ys : List Int} (hown : OwnI w B k v xs) {A : Option Addr} {m c : Nat} (hr : RdI w k A ys) (hm : ys.length = m) (hB : B ≤ w.heap.size) (hbytes : (xs.length + m) * bytes ≤ 140737488355328) (h63 : xs.length + m ≤ 9223372036854775807) :
    ∃ v' w', (Builtin.append_ #[t, t] ty #[v, .slice A m c]).run P w = .ok v' w' ∧ OwnI w' B k v' (xs ++ ys) ∧ w.grownBy w' v.ownBlock ∧ Below B w w' := by
  by_cases hy : ys = []
  · subst hy
    simp only [List.length_nil] at hm
    subst hm
    rcases hown with ⟨rfl, rfl⟩ | ⟨g, cap, cur, T, rfl, hb, hg, hT, h1, h2, h3, hc⟩
    · exact ⟨_, w, run_app_nil_src t ty e i ht hi none 0 0 (Nat.le_refl _) A c, .inl ⟨rfl, rfl⟩, .refl _ _, Below.refl _ _⟩
    · exact ⟨_, w, run_app_nil_src t ty e i ht hi _ _ cap h1 A c, by rw [List.append_nil]; exact .inr ⟨g, cap, cur, T, rfl, hb, hg, hT, h1, h2, h3, hc⟩, .refl _ _, Below.refl _ _⟩
  · have hpos : 0 < ys.length := List.length_pos_iff.2 hy
    obtain ⟨b, o, rfl, hcell⟩ := hr.at_ hpos
    have hnews : ∀ j u, (ys.map (Value.int k))[j]? = some u → w.cell? ((⟨b, o, none⟩ : Addr).add j) = some u := by
      intro j u hu
      have hj : j < ys.length := by simpa using (List.getElem?_eq_some_iff.1 hu).1
      rw [addr_add, hcell j hj]
      rw [List.getElem?_map, nth_lt hj] at hu
      exact hu
    have hl : (ys.map (Value.int k)).length = m * i.size := by rw [hs]; simp [hm]
    have grown : ∀ (old : Nat), old < xs.length + m → ∀ (row : Option Nat) (W : World), W = (w.drew.alloc (.cells ((xs.map (Value.int k)).toArray ++ (ys.map (Value.int k)).toArray ++ Builtin.zeroCells z.cells (grownCap w (xs.length + m) old e - (xs.length + m))) e)) →
        OwnI W B k (.slice (some ⟨w.heap.size, 0, none⟩) (xs.length + m) (grownCap w (xs.length + m) old e)) (xs ++ ys) ∧ w.grownBy W row ∧ Below B w W := by
      intro old ho row W hW
      have hge := grownCap_ge w (xs.length + m) old e
      have hcm : grownCap w (xs.length + m) old e ≤ 9223372036854775807 := by
        have := grownCap_le_maxLen w (xs.length + m) old e (by simp only [maxLen]; omega)
        simpa only [maxLen] using this
      subst hW
      refine ⟨OwnI.new (t := e) (heap_alloc_new w.drew _) hB he (by simp [hm]) hge ?_ hcm ?_, ⟨rfl, rfl, rfl, by simp, fun q hq _ => (Array.getElem?_push_lt hq).trans (Array.getElem?_eq_getElem hq).symm⟩, ((Below.refl _ _).drew).alloc hB _⟩
      · simp only [Array.size_append, List.size_toArray, List.length_map, size_zeroCells, hzs, hm]
        omega
      · simp only [Array.toList_append, List.append_assoc, List.map_append]
        rw [← List.append_assoc]
        rw [show xs.length + m = (xs.map (Value.int k) ++ ys.map (Value.int k)).length from by simp [hm]]
        exact List.take_left
    rcases hown with ⟨rfl, rfl⟩ | ⟨g, cap, cur, T, rfl, hb, hg, hT, h1, h2, h3, hc⟩
    · have hrun := run_append_nil (P := P) w t ty e i z ht hi hz ⟨b, o, none⟩ m c _ hl hnews (by omega) (by simp at h63; omega) (by rw [hby]; simp at hbytes; omega)
      have hgr := grown 0 (by simp; omega) (Value.ownBlock (.slice none 0 0)) _ rfl
      simp only [List.length_nil, Nat.zero_add, List.map_nil, List.nil_append, Array.empty_append] at hgr
      exact ⟨_, _, hrun, hgr.1, hgr.2.1, hgr.2.2⟩
    · by_cases hroom : xs.length + m ≤ cap
      · have hrun := run_app_room t ty e i ht hi hs g xs.length cap cur T hg ⟨b, o, none⟩ m c (ys.map (Value.int k)) (by simpa using hm) hnews (ints_oneCell k ys) hroom (by omega)
        refine ⟨_, _, hrun, OwnI.new (t := T) (setRow_heap w g cur _ T _ hg) hb hT (by simp [hm]) hroom ?_ h3 ?_, ⟨rfl, rfl, rfl, by simp, fun q _ hq => setRow_other w g q _ (fun e => hq (by simp [Value.ownBlock, e]))⟩, ⟨rfl, rfl, rfl, by simp, fun q hq => setRow_other w g q _ (by omega)⟩⟩
        · simp only [List.size_toArray, List.length_append, List.length_take, List.length_drop, Array.length_toList, List.length_map]
          omega
        · rw [hc]
          simp only [List.map_append]
          rw [show xs.length + m = (xs.map (Value.int k) ++ ys.map (Value.int k)).length from by simp [hm]]
          exact List.take_left
      · have holds : ∀ j u, (xs.map (Value.int k))[j]? = some u → w.cell? ((⟨g, 0, none⟩ : Addr).add j) = some u := by
          intro j u hu
          rw [← hc, List.getElem?_take] at hu
          split at hu
          · rw [addr_add, Nat.zero_add, cell_of_row w g j cur T (0, 0) hg]; simpa using hu
          · cases hu
        have hrun := run_append_grow (P := P) w t ty e i z ht hi hz ⟨g, 0, none⟩ xs.length cap (xs.map (Value.int k)) (by rw [hs]; simp) holds ⟨b, o, none⟩ m c _ hl hnews (by omega) (by omega) (growslice_fits (by omega) (by rw [hby]; exact hbytes))
        have hgr := grown cap (by omega) (Value.ownBlock (.slice (some ⟨g, 0, none⟩) xs.length cap)) _ rfl
        exact ⟨_, _, hrun, hgr.1, hgr.2.1, hgr.2.2⟩

theorem wp_app {w : World} {ops : Array Oper} {rest : List Oper} {o : Oper} {a : Act} {Q : Exit → Act → World → Prop} (hgd : o.guard = none) (s x : Operand) (t e : Nat) (i : TypeInfo) (z : Value) (k : IntKind) (bytes : Nat)
    (ho : o.op = .call { callee := .builtin .append, args := #[s, x], argTypes := #[t, t] })
    (ht : P.underlying t = some (.slice e)) (hi : P.info? e = some i) (hz : i.zero = some z) (hs : i.size = 1) (hby : i.bytes = bytes) (hzs : z.cells.size = 1) (he : spT e = false)
    {B : Nat} {v : Value} {xs ys : List Int} {A : Option Addr} {m c : Nat} (hv : a.eval s = v) (hx : a.eval x = .slice A m c) (hown : OwnI w B k v xs) (hr : RdI w k A ys) (hm : ys.length = m) (hB : B ≤ w.heap.size) (hbytes : (xs.length + m) * bytes ≤ 140737488355328) (h63 : xs.length + m ≤ 9223372036854775807)
    (h : ∀ v' w', OwnI w' B k v' (xs ++ ys) → w.grownBy w' v.ownBlock → Below B w w' → wpList P ops Q rest (a.put o.dst v') w') : wpList P ops Q (o :: rest) a w := by
  obtain ⟨v', w', hrun, h1, h2, h3⟩ := run_app (P := P) (w := w) t o.type e i z k bytes ht hi hz hs hby hzs he hown (c := c) hr hm hB hbytes h63
  refine wpList_plain hgd fun K hK => ?_
  unfold Oper.wp execOp
  simp only [ho, resolve, invoke, builtin, Sem.run_bind, Sem.run_pure, Result.andThen_ok, List.map_toArray, List.map_cons, List.map_nil, hv, hx, hrun]
  exact hK _ _ (h v' w' h1 h2 h3)

theorem zeroCells_one (z : Value) (h : z.cells = #[z]) (n : Nat) : (Builtin.zeroCells z.cells n).toList = List.replicate n z := by
  rw [h]
  apply List.ext_getElem?
  intro j
  simp only [Builtin.zeroCells]
  by_cases hj : j < n
  · simp [hj, Nat.mod_one]
  · simp [hj]
theorem run_app_zeros_room {w : World} (t tn ty e : Nat) (i : TypeInfo) (z : Value) (kq kn : IntKind) (ht : P.underlying t = some (.slice e)) (htn : P.underlying tn = some (.int kn)) (hi : P.info? e = some i) (hz : i.zero = some z) (hs : i.size = 1)
    (g n cap : Nat) (cur : Array Value) (T : Nat) (hg : w.heap[g]? = some (.cells cur T (0, 0))) (m : Nat) (h0 : 0 < m) (hzc : z.cells = #[z]) (h1 : z.oneCell' = true) (h63 : m ≤ 9223372036854775807) (h48 : m * i.bytes ≤ 281474976710656) (hroom : n + m ≤ cap) (hfit : n + m ≤ cur.size) :
    (Builtin.append_ #[t, tn] ty #[.slice (some ⟨g, 0, none⟩) n cap, .int kq m]).run P w =
      .ok (.slice (some ⟨g, 0, none⟩) (n + m) cap) (w.setRow g (cur.toList.take n ++ List.replicate m z ++ cur.toList.drop (n + m)).toArray) := by
  have hst := run_storeCells_at P g (n * i.size) T (List.replicate m z) 0 cur w hg (by rw [hs]; simp; omega) (by intro u hu; rw [List.eq_of_mem_replicate hu]; exact h1)
  rw [hs] at hst
  simp only [Nat.add_zero, Nat.mul_one, List.length_replicate] at hst
  have hw : IntKind.i64.wrap (m : Int) = m := by rw [IntKind.wrap_i64]; omega
  have hneg : ¬ ((m : Int) < 0) := by omega
  have h48i : ¬ (281474976710656 < (m : Int) * (i.bytes : Int)) := by
    rw [← Int.natCast_mul]
    omega
  have hm0 : m ≠ 0 := by omega
  have hl := zeroCells_one z hzc m
  simp [Builtin.append_, run_underlying ht, run_underlying htn, sizeOf, typeInfo, zeroValue, hi, hz, hs, asInt, asIntOf, hw, hneg, h48i, hm0, hroom, Addr.add_lit, hl, hst]
/-- append(s, make(T, m)...) for a row of the call's own. -/
theorem run_app_zeros {w : World} (t tn ty e : Nat) (i : TypeInfo) (k kq kn : IntKind) (bytes : Nat) (ht : P.underlying t = some (.slice e)) (htn : P.underlying tn = some (.int kn)) (hi : P.info? e = some i) (hz : i.zero = some (.int k 0)) (hs : i.size = 1) (hby : i.bytes = bytes) (he : spT e = false)
    {B : Nat} {v : Value} {xs : List Int} (hown : OwnI w B k v xs) {m : Nat} (h0 : 0 < m) (hB : B ≤ w.heap.size) (hbytes : (xs.length + m) * bytes ≤ 140737488355328) (h63 : xs.length + m ≤ 9223372036854775807) :
    ∃ v' w', (Builtin.append_ #[t, tn] ty #[v, .int kq m]).run P w = .ok v' w' ∧ OwnI w' B k v' (xs ++ List.replicate m 0) ∧ w.grownBy w' v.ownBlock ∧ Below B w w' := by
  have hzc : (Value.int k 0).cells = #[.int k 0] := rfl
  have hb1 : m * i.bytes ≤ 281474976710656 := by rw [hby]; have := Nat.mul_le_mul_right bytes (Nat.le_add_left m xs.length); omega
  have grown : ∀ (old : Nat), old < xs.length + m → ∀ (row : Option Nat) (W : World), W = (w.drew.alloc (.cells ((xs.map (Value.int k)).toArray ++ Builtin.zeroCells (Value.int k 0).cells m ++ Builtin.zeroCells (Value.int k 0).cells (grownCap w (xs.length + m) old e - (xs.length + m))) e)) →
      OwnI W B k (.slice (some ⟨w.heap.size, 0, none⟩) (xs.length + m) (grownCap w (xs.length + m) old e)) (xs ++ List.replicate m 0) ∧ w.grownBy W row ∧ Below B w W := by
    intro old ho row W hW
    have hge := grownCap_ge w (xs.length + m) old e
    have hcm : grownCap w (xs.length + m) old e ≤ 9223372036854775807 := by
      have := grownCap_le_maxLen w (xs.length + m) old e (by simp only [maxLen]; omega)
      simpa only [maxLen] using this
    subst hW
    refine ⟨OwnI.new (t := e) (heap_alloc_new w.drew _) hB he (by simp) hge ?_ hcm ?_, ⟨rfl, rfl, rfl, by simp, fun q hq _ => (Array.getElem?_push_lt hq).trans (Array.getElem?_eq_getElem hq).symm⟩, ((Below.refl _ _).drew).alloc hB _⟩
    · simp only [Array.size_append, List.size_toArray, List.length_map, size_zeroCells, hzc]
      simp
      omega
    · simp only [Array.toList_append, List.append_assoc, List.map_append, zeroCells_one _ hzc, List.map_replicate]
      rw [← List.append_assoc]
      rw [show xs.length + m = (xs.map (Value.int k) ++ List.replicate m (Value.int k 0)).length from by simp]
      exact List.take_left
  rcases hown with ⟨rfl, rfl⟩ | ⟨g, cap, cur, T, rfl, hb, hg, hT, h1, h2, h3, hc⟩
  · have hrun := Lib.run_append_nil_zeros (P := P) w t tn ty e i (.int k 0) kq kn ht htn hi hz m h0 (by omega) (by simp at h63; omega) hb1
    have hgr := grown 0 (by simp; omega) (Value.ownBlock (.slice none 0 0)) _ rfl
    simp only [List.length_nil, Nat.zero_add, List.map_nil, List.nil_append, Array.empty_append] at hgr
    exact ⟨_, _, hrun, hgr.1, hgr.2.1, hgr.2.2⟩
  · by_cases hroom : xs.length + m ≤ cap
    · have hrun := run_app_zeros_room t tn ty e i (.int k 0) kq kn ht htn hi hz hs g xs.length cap cur T hg m h0 hzc rfl (by omega) hb1 hroom (by omega)
      refine ⟨_, _, hrun, OwnI.new (t := T) (setRow_heap w g cur _ T _ hg) hb hT (by simp) hroom ?_ h3 ?_, ⟨rfl, rfl, rfl, by simp, fun q _ hq => setRow_other w g q _ (fun e => hq (by simp [Value.ownBlock, e]))⟩, ⟨rfl, rfl, rfl, by simp, fun q hq => setRow_other w g q _ (by omega)⟩⟩
      · simp only [List.size_toArray, List.length_append, List.length_take, List.length_drop, Array.length_toList, List.length_replicate]
        omega
      · rw [hc]
        simp only [List.map_append, List.map_replicate]
        rw [show xs.length + m = (xs.map (Value.int k) ++ List.replicate m (Value.int k 0)).length from by simp]
        exact List.take_left
    · have holds : ∀ j u, (xs.map (Value.int k))[j]? = some u → w.cell? ((⟨g, 0, none⟩ : Addr).add j) = some u := by
        intro j u hu
        rw [← hc, List.getElem?_take] at hu
        split at hu
        · rw [addr_add, Nat.zero_add, cell_of_row w g j cur T (0, 0) hg]; simpa using hu
        · cases hu
      have hf := run_firstCells_some (P := P) w.drew i.size xs.length ⟨g, 0, none⟩ xs.length cap (xs.map (Value.int k)) (by rw [hs]; simp) holds
      have hrun := Lib.run_append_grow_zeros (P := P) w t tn ty e i (.int k 0) kq kn ht htn hi hz (some ⟨g, 0, none⟩) xs.length cap (xs.map (Value.int k)) hf m h0 (by omega) (by omega) (by omega) hb1 (growslice_fits (by omega) (by rw [hby]; exact hbytes))
      have hgr := grown cap (by omega) (Value.ownBlock (.slice (some ⟨g, 0, none⟩) xs.length cap)) _ rfl
      exact ⟨_, _, hrun, hgr.1, hgr.2.1, hgr.2.2⟩
theorem wp_app_run {w : World} {ops : Array Oper} {rest : List Oper} {o : Oper} {a : Act} {Q : Exit → Act → World → Prop} (hgd : o.guard = none) (s x : Operand) (t tn : Nat)
    (ho : o.op = .call { callee := .builtin .append, args := #[s, x], argTypes := #[t, tn] }) {v vx : Value} (hv : a.eval s = v) (hx : a.eval x = vx)
    {v' : Value} {w' : World} (hrun : (Builtin.append_ #[t, tn] o.type #[v, vx]).run P w = .ok v' w') (h : wpList P ops Q rest (a.put o.dst v') w') : wpList P ops Q (o :: rest) a w := Lib.wpList_append_run w hgd s x t tn ho v vx hv hx v' w' hrun h
/-- A region that draws its order, all but its tail only read: the order of the text serves. -/
theorem wp_still_tail {id : Nat} {Q : Exit → Act → World → Prop} {a : Act} {w : World} {l : List Oper} (n : Nat) (hm : P.follows .mixedOrders = true) (hB : Region.lexTailB .any l.toArray n = true)
    (h : ∀ w1, w1 = w.drew → wpStill P l.toArray w1 (fun a' => wpList P l.toArray Q (l.drop n) a' w1) (l.take n) a) : (Code.region id l.toArray true).wp P Q a w :=
  wp_region_still_tail n hm hB (h _ rfl)
theorem wp_still_all {id : Nat} {Q : Exit → Act → World → Prop} {a : Act} {w : World} {l : List Oper} (hm : P.follows .mixedOrders = true) (hB : Region.lexB .any l.toArray = true)
    (h : ∀ w1, w1 = w.drew → wpStill P l.toArray w1 (fun a' => Q .normal a' w1) l a) : (Code.region id l.toArray true).wp P Q a w :=
  wp_region_still_lit hm hB (h _ rfl)
theorem wpStill_op {w : World} {ops : Array Oper} {rest : List Oper} {o : Oper} {a : Act} {Q : Act → Prop} (hgd : o.guard = none) {v : Value}
    (hrun : (execOp a.eval o).run P w = .ok (.value v) w) (h : wpStill P ops w Q rest (a.put o.dst v)) : wpStill P ops w Q (o :: rest) a :=
  wpStill_step fun K hK => by
    rw [if_pos (by simp [Region.wanted, hgd])]
    unfold Oper.still
    rw [hrun]
    exact ⟨rfl, hK _ h⟩
/-- A whole value is read out of a block. -/
theorem run_loadAt_row {w : World} (ty g : Nat) (cs : Array Value) (t : Nat) (fr : Nat × Nat) (d : TypeDesc) (hu : P.underlying ty = some d) (hd : (match d with | .struct _ | .array _ _ => true | _ => false) = true) (hs : (P.info? ty).map (·.size) = some cs.size) (hg : w.heap[g]? = some (.cells cs t fr)) :
    (Instr.loadAt ty (.pointer (some ⟨g, 0, none⟩))).run P w = .ok (.agg cs) w := by
  have hl := run_loadCells_list (P := P) w ⟨g, 0, none⟩ cs.toList (fun j v hj => by
    rw [addr_add, Nat.zero_add, cell_of_row w g j cs t fr hg]
    simpa using hj)
  obtain ⟨i, hi, hsz⟩ := Option.map_eq_some_iff.1 hs
  simp only [Array.length_toList] at hl
  cases d <;> simp at hd <;> simp [Instr.loadAt, Instr.sureAddr, loadVar, isAgg, run_underlying hu, sizeOf, typeInfo, hi, hsz, hl]
theorem wpStill_load_row {w : World} {ops : Array Oper} {rest : List Oper} {o : Oper} {a : Act} {Q : Act → Prop} (hgd : o.guard = none) (ty : Nat) (x : Operand) (ho : o.op = .load ty x) (g : Nat) (hx : a.eval x = .pointer (some ⟨g, 0, none⟩)) (cs : Array Value) (t : Nat) (fr : Nat × Nat) (d : TypeDesc)
    (hu : P.underlying ty = some d) (hd : (match d with | .struct _ | .array _ _ => true | _ => false) = true) (hs : (P.info? ty).map (·.size) = some cs.size) (hg : w.heap[g]? = some (.cells cs t fr))
    (h : wpStill P ops w Q rest (a.put o.dst (.agg cs))) : wpStill P ops w Q (o :: rest) a := by
  refine wpStill_op hgd ?_ h
  unfold execOp
  simp only [ho, hx, Sem.run_bind, run_loadAt_row (P := P) ty g cs t fr d hu hd hs hg, Result.andThen_ok, Sem.run_pure]
/-- An operation whose run is known. -/
theorem wp_op {w w' : World} {ops : Array Oper} {rest : List Oper} {o : Oper} {a : Act} {Q : Exit → Act → World → Prop} (hgd : o.guard = none) {v : Value}
    (hrun : (execOp a.eval o).run P w = .ok (.value v) w') (h : wpList P ops Q rest (a.put o.dst v) w') : wpList P ops Q (o :: rest) a w :=
  wpList_plain hgd fun K hK => by
    unfold Oper.wp
    rw [hrun]
    exact hK _ _ h
theorem wp_op_skip {w w' : World} {ops : Array Oper} {rest : List Oper} {o : Oper} {a : Act} {Q : Exit → Act → World → Prop} (hgd : o.guard = none)
    (hrun : (execOp a.eval o).run P w = .ok .skip w') (h : wpList P ops Q rest (a.put o.dst undef) w') : wpList P ops Q (o :: rest) a w :=
  wpList_plain hgd fun K hK => by
    unfold Oper.wp
    rw [hrun]
    exact hK _ _ h
theorem wp_convert {w w' : World} {ops : Array Oper} {rest : List Oper} {o : Oper} {a : Act} {Q : Exit → Act → World → Prop} (hgd : o.guard = none) (src dst : TypeId) (x : Operand) (ho : o.op = .convert src dst x) {u v : Value} (hx : a.eval x = u)
    (hrun : (convert src dst u).run P w = .ok v w') (h : wpList P ops Q rest (a.put o.dst v) w') : wpList P ops Q (o :: rest) a w := by
  refine wp_op hgd ?_ h
  unfold execOp
  simp only [ho, hx, Sem.run_bind, hrun, Result.andThen_ok, Sem.run_pure]
/-- A whole value is stored over a block. -/
theorem run_storeAt_row {w : World} (ty : Nat) (g : Nat) (cur cs : Array Value) (t : Nat) (hs : (P.info? ty).map (·.size) = some cs.size) (hg : w.heap[g]? = some (.cells cur t (0, 0))) (hc : cur.size = cs.size) (h1 : ∀ v ∈ cs.toList, v.oneCell' = true) :
    (Instr.storeAt ty (.pointer (some ⟨g, 0, none⟩)) (.agg cs)).run P w = .ok () (w.setRow g cs) := by
  have hst := run_storeCells_at P g 0 t cs.toList 0 cur w hg (by simp; omega) h1
  obtain ⟨i, hi, hsz⟩ := Option.map_eq_some_iff.1 hs
  simp only [Nat.add_zero, List.take_zero, List.nil_append, Nat.zero_add] at hst
  rw [List.drop_eq_nil_of_le (by simp; omega), List.append_nil] at hst
  simp [Instr.storeAt, Instr.sureAddr, storeVar, sizeOf, typeInfo, hi, hsz, Value.cells, hst]
theorem wp_store_new {w0 : World} {ops : Array Oper} {rest : List Oper} {o : Oper} {a : Act} {Q : Exit → Act → World → Prop} (hgd : o.guard = none) (hdst : o.dst = none) (ty : Nat) (x y : Operand) (ho : o.op = .store ty x y) (cur cs : Array Value) (t : Nat) (g : Nat) (hgs : w0.heap.size = g) (hx : a.eval x = .pointer (some ⟨g, 0, none⟩)) (hy : a.eval y = .agg cs)
    (hs : (P.info? ty).map (·.size) = some cs.size) (hc : cur.size = cs.size) (h1 : ∀ v ∈ cs.toList, v.oneCell' = true)
    (h : wpList P ops Q rest a (w0.alloc (.cells cs t))) : wpList P ops Q (o :: rest) a (w0.alloc (.cells cur t)) := by
  subst hgs
  have hrun := run_storeAt_row (P := P) ty w0.heap.size cur cs t hs (heap_alloc_new w0 _) hc h1
  rw [World.setRow_alloc_new] at hrun
  refine wp_op_skip hgd ?_ (by rw [hdst]; exact h)
  unfold execOp
  simp only [ho, hx, hy, Sem.run_bind, hrun, Result.andThen_ok, Sem.run_pure]
/-- copy into the block that was made last. -/
theorem wp_copy_new {w0 : World} {ops : Array Oper} {rest : List Oper} {o : Oper} {a : Act} {Q : Exit → Act → World → Prop} (hgd : o.guard = none) (d s : Operand) (dT sT : TypeId)
    (ho : o.op = .call { callee := .builtin .copy, args := #[d, s], argTypes := #[dT, sT] }) (elem : TypeId) (hu : P.underlying dT = some (.slice elem)) (hsz : (P.info? elem).map (·.size) = some 1)
    (g : Nat) (hgs : w0.heap.size = g) (off dLen dCap : Nat) (ad : Addr) (sLen sCap : Nat) (hd : a.eval d = .slice (some ⟨g, off, none⟩) dLen dCap) (hs : a.eval s = .slice (some ad) sLen sCap)
    (cur : Array Value) (t : TypeId) (cs : List Value) (hn : cs.length = Nat.min sLen dLen)
    (hsrc : ∀ j v, cs[j]? = some v → (w0.alloc (.cells cur t)).cell? (ad.add j) = some v) (hfit : off + cs.length ≤ cur.size) (h1 : ∀ v ∈ cs, v.oneCell' = true)
    (out : Array Value) (hout : out = (cur.toList.take off ++ (cs ++ cur.toList.drop (off + cs.length))).toArray)
    (h : wpList P ops Q rest (a.put o.dst (goInt cs.length)) (w0.alloc (.cells out t))) : wpList P ops Q (o :: rest) a (w0.alloc (.cells cur t)) := by
  subst hgs
  refine wpList_copy_own hgd d s dT sT ho elem hu hsz w0.heap.size off dLen dCap ad sLen sCap hd hs cur t (heap_alloc_new _ _) cs hn hsrc hfit h1 ?_
  rw [World.setRow_alloc_new, ← hout]
  exact h
/-- The cells of a row that is read, as the laws on append and copy want them. -/
theorem news_of0 {w : World} {k : IntKind} {b o : Nat} {ys : List Int} (hcell : ∀ j, j < ys.length → w.cell? ⟨b, o + j, none⟩ = some (.int k (nth ys j))) :
    ∀ j u, (ys.map (Value.int k))[j]? = some u → w.cell? ((⟨b, o, none⟩ : Addr).add j) = some u := by
  intro j u hu
  have hj : j < ys.length := by simpa using (List.getElem?_eq_some_iff.1 hu).1
  rw [addr_add, hcell j hj]
  rw [List.getElem?_map, nth_lt hj] at hu
  exact hu
/-- copy of a row that is read into a block. -/
theorem wp_copy_row {w : World} {ops : Array Oper} {rest : List Oper} {o : Oper} {a : Act} {Q : Exit → Act → World → Prop} (hgd : o.guard = none) (d s : Operand) (dT sT : TypeId)
    (ho : o.op = .call { callee := .builtin .copy, args := #[d, s], argTypes := #[dT, sT] }) (elem : TypeId) (hu : P.underlying dT = some (.slice elem)) (hsz : (P.info? elem).map (·.size) = some 1)
    (g off dLen dCap : Nat) (A : Option Addr) (m sCap : Nat) (hd : a.eval d = .slice (some ⟨g, off, none⟩) dLen dCap) (hs : a.eval s = .slice A m sCap)
    (cur : Array Value) (t : TypeId) (hg : w.heap[g]? = some (.cells cur t (0, 0))) (k : IntKind) (ys : List Int) (hr : RdI w k A ys) (hm : ys.length = m) (hle : m ≤ dLen) (hfit : off + m ≤ cur.size)
    (h : wpList P ops Q rest (a.put o.dst (goInt m)) (w.setRow g (cur.toList.take off ++ (ys.map (Value.int k) ++ cur.toList.drop (off + m))).toArray)) : wpList P ops Q (o :: rest) a w := by
  by_cases h0 : m = 0
  · subst h0
    have : ys = [] := List.eq_nil_of_length_eq_zero hm
    subst this
    refine wpList_copy_nothing hgd d s dT sT ho elem hu hsz _ _ dLen dCap 0 sCap hd hs (by simp) ?_
    simp only [List.map_nil, List.nil_append, Nat.add_zero, List.take_append_drop] at h
    rw [setRow_self w g cur t _ hg] at h
    exact h
  · obtain ⟨b, o', rfl, hc⟩ := hr.at_ (by omega)
    refine wpList_copy_own hgd d s dT sT ho elem hu hsz g off dLen dCap ⟨b, o', none⟩ m sCap hd hs cur t hg (ys.map (Value.int k)) (by simp only [List.length_map, hm]; exact (Nat.min_eq_left hle).symm) (news_of0 hc) (by simp [hm]; exact hfit) (ints_oneCell k ys) ?_
    simp only [List.length_map, hm]
    exact h
theorem news_of {w : World} {k : IntKind} {b o : Nat} {ys : List Int} (hcell : ∀ j, j < ys.length → w.cell? ⟨b, o + j, none⟩ = some (.int k (nth ys j))) :
    ∀ j u, (ys.map (Value.int k))[j]? = some u → w.cell? ((⟨b, o, none⟩ : Addr).add j) = some u := by
  intro j u hu
  have hj : j < ys.length := by simpa using (List.getElem?_eq_some_iff.1 hu).1
  rw [addr_add, hcell j hj]
  rw [List.getElem?_map, nth_lt hj] at hu
  exact hu
end
end Go.Proofs.Ytbcicfgffjgpdaa

/- Plain: the four bytes of a number, the number of four bytes, what is wrapped, what is unwrapped (layer 4). No condition. -/
set_option linter.unusedVariables false
set_option linter.unusedSimpArgs false
namespace Go.Proofs.Ytbcicfgffjgpdaa
open Go Go.RowKit

/-- All are bytes. -/
def Byt (xs : List Int) : Prop := ∀ x ∈ xs, 0 ≤ x ∧ x ≤ 255
theorem Byt.nth {xs : List Int} (h : Byt xs) (j : Nat) : 0 ≤ nth xs j ∧ nth xs j ≤ 255 := by
  by_cases hj : j < xs.length
  · exact h _ (nth_mem hj)
  · simp [Go.Proofs.Ytbcicfgffjgpdaa.nth, List.getElem?_eq_none (show xs.length ≤ j by omega)]
theorem Byt.append {xs ys : List Int} (h : Byt xs) (k : Byt ys) : Byt (xs ++ ys) := fun x hx => by
  rcases List.mem_append.1 hx with hx | hx
  · exact h x hx
  · exact k x hx
theorem Byt.drop {xs : List Int} (h : Byt xs) (n : Nat) : Byt (xs.drop n) := fun x hx => h x (List.mem_of_mem_drop hx)
theorem Byt.take {xs : List Int} (h : Byt xs) (n : Nat) : Byt (xs.take n) := fun x hx => h x (List.mem_of_mem_take hx)

def numB (h : Int) : List Int := if 1 ≤ h ∧ h ≤ 65536 then [0, h / 65536, h / 256 % 256, h % 256] else []
theorem numB_yes {h : Int} (h0 : 1 ≤ h) (h1 : h ≤ 65536) : numB h = [0, h / 65536, h / 256 % 256, h % 256] := if_pos ⟨h0, h1⟩
theorem numB_no {h : Int} (h0 : ¬(1 ≤ h ∧ h ≤ 65536)) : numB h = [] := if_neg h0
theorem numB_byt (h : Int) : Byt (numB h) := by
  unfold numB
  split
  · intro x hx
    simp at hx
    omega
  · intro x hx; simp at hx

def be4 (b : List Int) : Int := nth b 0 * 16777216 + nth b 1 * 65536 + nth b 2 * 256 + nth b 3
def numOf (b : List Int) : Int := if b.length = 4 ∧ 1 ≤ be4 b ∧ be4 b ≤ 65536 then be4 b else 0
theorem numOf_len {b : List Int} (h : b.length ≠ 4) : numOf b = 0 := if_neg (fun x => h x.1)
theorem numOf_range (b : List Int) : 0 ≤ numOf b ∧ numOf b ≤ 65536 := by unfold numOf; split <;> omega

def wrapB (h n : Int) : List Int := if (1 ≤ h ∧ h ≤ 65536) ∧ 0 ≤ n ∧ n ≤ 1200 then numB h ++ List.replicate (n + 12).toNat 0 else []

/-- Number, length, ok. -/
def unwrap (b : List Int) : Int × Int × Bool :=
  if 16 ≤ b.length ∧ b.length ≤ 1216 ∧ numOf (b.take 4) ≠ 0 ∧ (∀ x ∈ b.drop 4, x = 0) then (numOf (b.take 4), (b.length : Int) - 16, true) else (0, 0, false)

theorem numOf_numB {h : Int} (h0 : 1 ≤ h) (h1 : h ≤ 65536) : numOf (numB h) = h := by
  rw [numB_yes h0 h1]
  simp [numOf, be4, nth]
  omega
theorem wrap_take {h n : Int} (k : (1 ≤ h ∧ h ≤ 65536) ∧ 0 ≤ n ∧ n ≤ 1200) : (wrapB h n).take 4 = numB h := by
  unfold wrapB
  rw [if_pos k, numB_yes k.1.1 k.1.2]
  rfl
theorem wrap_drop {h n : Int} (k : (1 ≤ h ∧ h ≤ 65536) ∧ 0 ≤ n ∧ n ≤ 1200) : (wrapB h n).drop 4 = List.replicate (n + 12).toNat 0 := by
  unfold wrapB
  rw [if_pos k, numB_yes k.1.1 k.1.2]
  rfl
theorem wrap_len {h n : Int} (k : (1 ≤ h ∧ h ≤ 65536) ∧ 0 ≤ n ∧ n ≤ 1200) : (wrapB h n).length = n.toNat + 16 := by
  unfold wrapB
  rw [if_pos k, numB_yes k.1.1 k.1.2]
  simp
  omega
theorem wrap_byt (h n : Int) : Byt (wrapB h n) := by
  unfold wrapB
  split
  · exact (numB_byt h).append fun x hx => by rw [List.eq_of_mem_replicate hx]; decide
  · intro x hx; simp at hx
theorem unwrap_wrap {h n : Int} (k : (1 ≤ h ∧ h ≤ 65536) ∧ 0 ≤ n ∧ n ≤ 1200) : unwrap (wrapB h n) = (h, n, true) := by
  unfold unwrap
  rw [wrap_take k, wrap_drop k, wrap_len k, numOf_numB k.1.1 k.1.2, if_pos ⟨by omega, by omega, by omega, fun x hx => List.eq_of_mem_replicate hx⟩]
  simp
  omega
theorem unwrap_spoilt {h n : Int} (k : (1 ≤ h ∧ h ≤ 65536) ∧ 0 ≤ n ∧ n ≤ 1200) {j : Nat} (h4 : 4 ≤ j) (hj : j < n.toNat + 16) : (unwrap ((wrapB h n).set j 1)).2.2 = false := by
  unfold unwrap
  rw [if_neg]
  intro hh
  have hl := wrap_len k
  have e : (((wrapB h n).set j 1).drop 4)[j - 4]? = some 1 := by
    rw [List.getElem?_drop, show 4 + (j - 4) = j from by omega, List.getElem?_set_self (by omega)]
  have := hh.2.2.2 1 (List.mem_of_getElem? e)
  omega
theorem unwrap_short {h n : Int} (k : (1 ≤ h ∧ h ≤ 65536) ∧ 0 ≤ n ∧ n ≤ 1200) : unwrap ((wrapB h n).take (n.toNat + 15)) = if 0 < n then (h, n - 1, true) else (0, 0, false) := by
  unfold unwrap
  rw [List.take_take, show min 4 (n.toNat + 15) = 4 from by omega, wrap_take k, List.drop_take, wrap_drop k, List.length_take, wrap_len k, numOf_numB k.1.1 k.1.2]
  by_cases h0 : 0 < n
  · rw [if_pos h0, if_pos ⟨by omega, by omega, by omega, fun x hx => List.eq_of_mem_replicate (List.mem_of_mem_take hx)⟩]
    simp
    omega
  · rw [if_neg h0, if_neg (by omega)]
end Go.Proofs.Ytbcicfgffjgpdaa

/- How arguments that read as data stand in memory. No condition. -/
set_option linter.unusedVariables false
set_option linter.unusedSimpArgs false
namespace Go.Proofs.Ytbcicfgffjgpdaa
open Go Go.RowKit Go.ChangeShapes Go.WideShapes Go.ChangeAt
open Go.ChangeMaps (open_string shut_string)

theorem row_own : ownKnob Try.prog.godebug = none := by kernel_rfl
theorem row_laidOut : laidOutB Try.prog = true := by kernel_rfl

theorem wf_u8 {x : Int} (h : (Lit.int .u8 x).wf = true) : 0 ≤ x ∧ x ≤ 255 := by
  exact bounds_u8 h

/-- A []byte argument. -/
theorem open_bytes {H : Type} {enc : TypeId × Value → H} {w : World} {base : Nat} {a : Option Addr} {len cap : Nat} {d : DataW H} {p : List MemPlace}
    (h : DataW.Trod enc Try.prog w base (fun _ => true) true 27 (.slice a len cap) d p) : ∃ xs, Rds w.heap.size w .u8 a len cap xs ∧ Byt xs := by
  obtain ⟨fuel, hf⟩ := h
  rcases open_ints Try.underlying27 Try.underlying5 (by kernel_rfl) hf with ⟨hcs, _⟩ | ⟨x, l, c, zs, hcs, _, hl, hm, hz, _, hcell, hwz⟩
  · simp [Value.cells] at hcs
    obtain ⟨rfl, rfl, rfl⟩ := hcs
    exact ⟨[], Rds.nil _ _ _, fun x hx => by simp at hx⟩
  · simp [Value.cells] at hcs
    obtain ⟨rfl, rfl, rfl⟩ := hcs
    have hz' : zs.length = cap := by simpa using hz
    have hn : ∀ j, j < len → nth (zs.take len) j = zs.getD j 0 := fun j hj => by rw [nth_take hj]; rfl
    refine ⟨zs.take len, ⟨by simp; omega, hl, by simpa only [maxLen] using hm, fun j hj => ?_, fun p a e => ?_⟩, fun y hy => wf_u8 (hwz y (List.mem_of_mem_take hy))⟩
    · have hj' : j < len := by simp at hj; omega
      refine ⟨_, rfl, ?_⟩
      rw [hn j hj']
      exact hcell j (by omega)
    · cases e
      have h0 := hcell 0 (by omega)
      have := World.block_lt_of_cell? _ _ h0
      rw [add_block] at this
      exact ⟨this, .inl this⟩
end Go.Proofs.Ytbcicfgffjgpdaa

/- The program's own numbers for the library of rows: appends of bytes, of ints, of terms. No condition. -/
set_option linter.unusedVariables false
namespace Go.Proofs.Ytbcicfgffjgpdaa
open Go Go.RowKit

theorem info_u8 : (Try.prog.info? 5).map (fun i => (i.zero, i.size, i.bytes)) = some (some (.int .u8 0), 1, 1) := by kernel_rfl
theorem sp_u8 : spT 5 = false := by decide
theorem sp_arr4 : spT 112 = false := by decide
theorem info_int : (Try.prog.info? 3).map (fun i => (i.zero, i.size, i.bytes)) = some (some (.int .i64 0), 1, 8) := by kernel_rfl
theorem sp_int : spT 3 = false := by decide
theorem info_term : (Try.prog.info? 25).map (fun i => (i.zero, i.size, i.bytes)) = some (some (.int .i64 0), 1, 8) := by kernel_rfl
theorem sp_term : spT 25 = false := by decide

/-- append(s, x...) of bytes. -/
theorem wp_app_u8 {w : World} {ops : Array Oper} {rest : List Oper} {o : Oper} {a : Act} {Q : Exit → Act → World → Prop} (hgd : o.guard = none) (s x : Operand)
    (ho : o.op = .call { callee := .builtin .append, args := #[s, x], argTypes := #[27, 27] })
    {B : Nat} {v : Value} {xs ys : List Int} {A : Option Addr} {m c : Nat} (hv : a.eval s = v) (hx : a.eval x = .slice A m c) (hown : OwnI w B .u8 v xs) (hr : RdI w .u8 A ys) (hm : ys.length = m) (hB : B ≤ w.heap.size) (hbytes : xs.length + m ≤ 140737488355328)
    (h : ∀ v' w', OwnI w' B .u8 v' (xs ++ ys) → w.grownBy w' v.ownBlock → Below B w w' → wpList Try.prog ops Q rest (a.put o.dst v') w') : wpList Try.prog ops Q (o :: rest) a w := by
  obtain ⟨i, hi, hz0, hz1, hz2⟩ := info_parts info_u8
  exact wp_app hgd s x 27 5 i (.int .u8 0) .u8 1 ho Try.underlying27 hi hz0 hz1 hz2 rfl sp_u8 hv hx hown hr hm hB (by omega) (by omega) h
theorem wp_app_int {w : World} {ops : Array Oper} {rest : List Oper} {o : Oper} {a : Act} {Q : Exit → Act → World → Prop} (hgd : o.guard = none) (s x : Operand)
    (ho : o.op = .call { callee := .builtin .append, args := #[s, x], argTypes := #[72, 72] })
    {B : Nat} {v : Value} {xs ys : List Int} {A : Option Addr} {m c : Nat} (hv : a.eval s = v) (hx : a.eval x = .slice A m c) (hown : OwnI w B .i64 v xs) (hr : RdI w .i64 A ys) (hm : ys.length = m) (hB : B ≤ w.heap.size) (hbytes : (xs.length + m) * 8 ≤ 140737488355328)
    (h : ∀ v' w', OwnI w' B .i64 v' (xs ++ ys) → w.grownBy w' v.ownBlock → Below B w w' → wpList Try.prog ops Q rest (a.put o.dst v') w') : wpList Try.prog ops Q (o :: rest) a w := by
  obtain ⟨i, hi, hz0, hz1, hz2⟩ := info_parts info_int
  exact wp_app hgd s x 72 3 i (.int .i64 0) .i64 8 ho Try.underlying72 hi hz0 hz1 hz2 rfl sp_int hv hx hown hr hm hB hbytes (by omega) h
theorem wp_app_term {w : World} {ops : Array Oper} {rest : List Oper} {o : Oper} {a : Act} {Q : Exit → Act → World → Prop} (hgd : o.guard = none) (s x : Operand)
    (ho : o.op = .call { callee := .builtin .append, args := #[s, x], argTypes := #[35, 35] })
    {B : Nat} {v : Value} {xs ys : List Int} {A : Option Addr} {m c : Nat} (hv : a.eval s = v) (hx : a.eval x = .slice A m c) (hown : OwnI w B .i64 v xs) (hr : RdI w .i64 A ys) (hm : ys.length = m) (hB : B ≤ w.heap.size) (hbytes : (xs.length + m) * 8 ≤ 140737488355328)
    (h : ∀ v' w', OwnI w' B .i64 v' (xs ++ ys) → w.grownBy w' v.ownBlock → Below B w w' → wpList Try.prog ops Q rest (a.put o.dst v') w') : wpList Try.prog ops Q (o :: rest) a w := by
  obtain ⟨i, hi, hz0, hz1, hz2⟩ := info_parts info_term
  exact wp_app hgd s x 35 25 i (.int .i64 0) .i64 8 ho Try.underlying35 hi hz0 hz1 hz2 rfl sp_term hv hx hown hr hm hB hbytes (by omega) h
/-- append(s, make([]byte, m)...). -/
theorem wp_app_u8_zeros {w : World} {ops : Array Oper} {rest : List Oper} {o : Oper} {a : Act} {Q : Exit → Act → World → Prop} (hgd : o.guard = none) (s x : Operand)
    (ho : o.op = .call { callee := .builtin .append, args := #[s, x], argTypes := #[27, 3] })
    {B : Nat} {v : Value} {xs : List Int} {m : Nat} {M : Int} (hv : a.eval s = v) (hx : a.eval x = .int .i64 M) (hM : M = (m : Int)) (hown : OwnI w B .u8 v xs) (h0 : 0 < m) (hB : B ≤ w.heap.size) (hbytes : xs.length + m ≤ 140737488355328)
    (h : ∀ v' w', OwnI w' B .u8 v' (xs ++ List.replicate m 0) → w.grownBy w' v.ownBlock → Below B w w' → wpList Try.prog ops Q rest (a.put o.dst v') w') : wpList Try.prog ops Q (o :: rest) a w := by
  obtain ⟨i, hi, hz0, hz1, hz2⟩ := info_parts info_u8
  subst hM
  obtain ⟨v', w', hrun, h1, h2, h3⟩ := run_app_zeros (P := Try.prog) (w := w) 27 3 o.type 5 i .u8 .i64 .i64 1 Try.underlying27 Try.underlying3 hi hz0 hz1 hz2 sp_u8 hown h0 hB (by omega) (by omega)
  exact wp_app_run hgd s x _ _ ho hv hx hrun (h v' w' h1 h2 h3)
end Go.Proofs.Ytbcicfgffjgpdaa

/- Plain: a table of terms (layer 2), as a list. No condition. -/
set_option linter.unusedVariables false
set_option linter.unusedSimpArgs false
namespace Go.Proofs.Ytbcicfgffjgpdaa
open Go Go.RowKit

/-- A term: its kind, its text, its parts. -/
structure Nd where
  kind : Int
  text : ByteArray
  parts : List Int
  deriving DecidableEq

/-- The number of a term that is there (from 0 on). -/
def lookT (T : List Nd) (n : Nd) : Option Nat := T.findIdx? (fun m => decide (m = n))
def addT (T : List Nd) (n : Nd) : List Nd × Int :=
  match (if n.kind = 2 then none else lookT T n) with
  | some i => (T, (i : Int) + 1)
  | none => if T.length = 65536 then (T, 0) else (T ++ [n], (T.length : Int) + 1)
def textT (T : List Nd) (b : ByteArray) : List Nd × Int := if b.size ≤ 2048 then addT T ⟨1, b, []⟩ else (T, 0)
def secretT (T : List Nd) : List Nd × Int := addT T ⟨2, ByteArray.empty, []⟩
/-- The term of a number. -/
def getT (T : List Nd) (h : Int) : Option Nd := if 1 ≤ h then T[(h - 1).toNat]? else none
def kindT (T : List Nd) (h : Int) : Int := match getT T h with | some n => n.kind | none => 0
def sort2 (a b : Int) : List Int := if b < a then [b, a] else [a, b]
/-- Have parts of these kinds a form? -/
def formedT (kind : Int) (l : List Int) : Bool :=
  if kind = 3 then decide (l.length ≤ 16)
  else if kind = 4 then decide (l.length = 1)
  else if kind = 5 then decide (l.length = 2)
  else if kind = 6 ∨ kind = 10 then decide (l.length = 3 ∧ nth l 1 = 1)
  else if kind = 7 then decide (l.length = 1 ∧ nth l 0 = 2)
  else if kind = 8 then decide (l.length = 2 ∧ nth l 0 = 2 ∧ nth l 1 = 7)
  else if kind = 9 then decide (l.length = 2 ∧ nth l 0 = 2)
  else false
/-- The parts as they stand in the table. -/
def ownT (T : List Nd) (kind : Int) (parts : List Int) : List Int :=
  if kind = 8 then (match getT T (nth parts 1) with | some p => sort2 (nth parts 0) (nth p.parts 0) | none => parts) else parts
def makeT (T : List Nd) (kind : Int) (parts : List Int) : List Nd × Int :=
  if (0 : Int) ∈ parts.map (kindT T) ∨ formedT kind (parts.map (kindT T)) = false then (T, 0) else addT T ⟨kind, ByteArray.empty, ownT T kind parts⟩

/-- What stands in a table. -/
structure GoodN (i : Nat) (T : List Nd) (n : Nd) : Prop where
  kind : 1 ≤ n.kind ∧ n.kind ≤ 10
  text : n.text.size ≤ 2048
  many : n.parts.length ≤ 16
  range : ∀ p ∈ n.parts, 1 ≤ p ∧ p ≤ i
  k1 : n.kind = 1 → n.parts = []
  k2 : n.kind = 2 → n.parts = [] ∧ n.text = ByteArray.empty
  k3 : n.kind ≠ 1 → n.text = ByteArray.empty
  k4 : n.kind = 4 → n.parts.length = 1
  k5 : n.kind = 5 → n.parts.length = 2
  k6 : n.kind = 6 ∨ n.kind = 10 → n.parts.length = 3 ∧ kindT T (nth n.parts 1) = 1
  k7 : n.kind = 7 → n.parts.length = 1 ∧ kindT T (nth n.parts 0) = 2
  k8 : n.kind = 8 → n.parts.length = 2 ∧ kindT T (nth n.parts 0) = 2 ∧ kindT T (nth n.parts 1) = 2 ∧ nth n.parts 0 ≤ nth n.parts 1
  k9 : n.kind = 9 → n.parts.length = 2 ∧ kindT T (nth n.parts 0) = 2
structure WfT (T : List Nd) : Prop where
  len : T.length ≤ 65536
  good : ∀ (i : Nat) (n : Nd), T[i]? = some n → GoodN i T n
  uniq : ∀ (i j : Nat) (n : Nd), T[i]? = some n → T[j]? = some n → n.kind ≠ 2 → i = j

theorem lookT_some {T : List Nd} {n : Nd} {i : Nat} (h : lookT T n = some i) : T[i]? = some n := by
  unfold lookT at h
  have := List.findIdx?_eq_some_iff_getElem.1 h
  obtain ⟨hl, hp, _⟩ := this
  simp at hp
  rw [List.getElem?_eq_getElem hl, hp]
theorem lookT_none {T : List Nd} {n : Nd} (h : lookT T n = none) : ∀ i : Nat, T[i]? ≠ some n := by
  intro i hi
  unfold lookT at h
  have := List.findIdx?_eq_none_iff.1 h n (List.mem_of_getElem? hi)
  simp at this
theorem lookT_of {T : List Nd} (hw : WfT T) {n : Nd} {i : Nat} (h : T[i]? = some n) (hk : n.kind ≠ 2) : lookT T n = some i := by
  cases hl : lookT T n with
  | none => exact absurd h (lookT_none hl i)
  | some j => rw [hw.uniq j i n (lookT_some hl) h hk]

theorem getT_nat {T : List Nd} (i : Nat) : getT T ((i : Int) + 1) = T[i]? := by
  unfold getT
  rw [if_pos (by omega)]
  congr 1
  omega
theorem getT_range {T : List Nd} {h : Int} {n : Nd} (e : getT T h = some n) : 1 ≤ h ∧ h ≤ T.length := by
  unfold getT at e
  split at e
  · have := (List.getElem?_eq_some_iff.1 e).1
    omega
  · cases e
theorem getT_some {T : List Nd} {h : Int} (h0 : 1 ≤ h) (h1 : h ≤ T.length) : ∃ n, getT T h = some n := by
  unfold getT
  rw [if_pos h0]
  exact ⟨_, List.getElem?_eq_getElem (by omega)⟩
theorem getT_none {T : List Nd} {h : Int} (k : ¬(1 ≤ h ∧ h ≤ T.length)) : getT T h = none := by
  unfold getT
  split
  · exact List.getElem?_eq_none (by omega)
  · rfl
theorem getT_mono {T T' : List Nd} {h : Int} {n : Nd} (e : getT T h = some n) : getT (T ++ T') h = some n := by
  have hr := getT_range e
  unfold getT at e ⊢
  rw [if_pos hr.1] at e ⊢
  rw [List.getElem?_append_left (by omega), e]
theorem kindT_mono {T T' : List Nd} {h : Int} {k : Int} (e : kindT T h = k) (hk : k ≠ 0) : kindT (T ++ T') h = k := by
  unfold kindT at e ⊢
  cases hg : getT T h with
  | none => rw [hg] at e; exact absurd e.symm hk
  | some n => rw [hg] at e; rw [getT_mono hg]; exact e
theorem kindT_range {T : List Nd} {h : Int} (e : kindT T h ≠ 0) : 1 ≤ h ∧ h ≤ T.length := by
  unfold kindT at e
  cases hg : getT T h with
  | none => rw [hg] at e; exact absurd rfl e
  | some n => exact getT_range hg
theorem WfT.kind {T : List Nd} (hw : WfT T) {h : Int} (h0 : 1 ≤ h) (h1 : h ≤ T.length) : 1 ≤ kindT T h ∧ kindT T h ≤ 10 := by
  obtain ⟨n, e⟩ := getT_some h0 h1
  unfold kindT
  rw [e]
  unfold getT at e
  rw [if_pos h0] at e
  exact (hw.good _ _ e).kind
theorem WfT.get {T : List Nd} (hw : WfT T) {h : Int} {n : Nd} (e : getT T h = some n) : GoodN (h - 1).toNat T n := by
  have hr := getT_range e
  unfold getT at e
  rw [if_pos hr.1] at e
  exact hw.good _ _ e
theorem kindT_get {T : List Nd} {h : Int} {n : Nd} (e : getT T h = some n) : kindT T h = n.kind := by unfold kindT; rw [e]

theorem GoodN.mono {i : Nat} {T T' : List Nd} {n : Nd} (h : GoodN i T n) : GoodN i (T ++ T') n :=
  ⟨h.kind, h.text, h.many, h.range, h.k1, h.k2, h.k3, h.k4, h.k5, fun k => ⟨(h.k6 k).1, kindT_mono (h.k6 k).2 (by decide)⟩, fun k => ⟨(h.k7 k).1, kindT_mono (h.k7 k).2 (by decide)⟩,
    fun k => ⟨(h.k8 k).1, kindT_mono (h.k8 k).2.1 (by decide), kindT_mono (h.k8 k).2.2.1 (by decide), (h.k8 k).2.2.2⟩, fun k => ⟨(h.k9 k).1, kindT_mono (h.k9 k).2 (by decide)⟩⟩

theorem wfT_nil : WfT [] := ⟨by simp, fun i n h => by simp at h, fun i j n h => by simp at h⟩
theorem wfT_snoc {T : List Nd} (hw : WfT T) {n : Nd} (hn : GoodN T.length T n) (hl : T.length < 65536) (hu : n.kind ≠ 2 → ∀ i : Nat, T[i]? ≠ some n) : WfT (T ++ [n]) := by
  refine ⟨by simp; omega, fun i m h => ?_, fun i j m h h' hk => ?_⟩
  · rw [List.getElem?_append] at h
    split at h
    · exact (hw.good i m h).mono
    · have : i = T.length := by
        rcases Nat.lt_or_ge (i - T.length) 1 with h1 | h1
        · omega
        · rw [List.getElem?_eq_none (by simpa using h1)] at h; cases h
      subst this
      simp at h
      subst h
      exact hn.mono
  · rw [List.getElem?_append] at h h'
    split at h <;> split at h'
    · exact hw.uniq i j m h h' hk
    · have : m = n := by
        rcases Nat.lt_or_ge (j - T.length) 1 with h1 | h1
        · have : j - T.length = 0 := by omega
          rw [this] at h'; simpa using h'.symm
        · rw [List.getElem?_eq_none (by simpa using h1)] at h'; cases h'
      subst this
      exact absurd h (hu hk i)
    · have : m = n := by
        rcases Nat.lt_or_ge (i - T.length) 1 with h1 | h1
        · have : i - T.length = 0 := by omega
          rw [this] at h; simpa using h.symm
        · rw [List.getElem?_eq_none (by simpa using h1)] at h; cases h
      subst this
      exact absurd h' (hu hk j)
    · rcases Nat.lt_or_ge (i - T.length) 1 with h1 | h1
      · rcases Nat.lt_or_ge (j - T.length) 1 with h2 | h2
        · omega
        · rw [List.getElem?_eq_none (by simpa using h2)] at h'; cases h'
      · rw [List.getElem?_eq_none (by simpa using h1)] at h; cases h
theorem wfT_add {T : List Nd} (hw : WfT T) {n : Nd} (hn : GoodN T.length T n) : WfT (addT T n).1 := by
  unfold addT
  split
  · exact hw
  · rename_i he
    split
    · exact hw
    · rename_i hl
      refine wfT_snoc hw hn (by have := hw.len; omega) fun hk => ?_
      rw [if_neg hk] at he
      exact lookT_none he
end Go.Proofs.Ytbcicfgffjgpdaa

/- The map of a table: its keys, what is found, what is put. No condition. -/
set_option linter.unusedVariables false
set_option linter.unusedSimpArgs false
namespace Go.Proofs.Ytbcicfgffjgpdaa
open Go Go.RowKit Go.WideMaps

theorem key_laid : laidOutB Try.prog = true := by kernel_rfl
theorem key_law : KeyLaw Try.prog 88 := deep_law_laid key_laid (m := 4) (by omega) (of_decide_eq_true (by kernel_rfl)) (by kernel_rfl) (by rw [Try.underlying88])
theorem key_deep : Try.prog.keyType 88 = true := by kernel_rfl
theorem cells_key : Try.prog.cellsOf 88 = 19 := by kernel_rfl
theorem cells_parts : Try.prog.cellsOf 86 = 16 := by kernel_rfl
theorem cells_int : Try.prog.cellsOf 3 = 1 := by kernel_rfl
theorem cells_string : Try.prog.cellsOf 9 = 1 := by kernel_rfl
theorem cells_term : Try.prog.cellsOf 25 = 1 := by kernel_rfl
theorem types_pos : ∃ m, Try.prog.types.size + 1 = m + 3 := ⟨Try.prog.types.size - 2, by have : 2 ≤ Try.prog.types.size := of_decide_eq_true (by kernel_rfl); omega⟩

theorem wf_small' : ∀ n, n < 17 → (Lit.int .i64 ((n : Nat) : Int)).wf = true := by decide
theorem wf_small (n : Nat) (h : n ≤ 16) : (Lit.int .i64 (n : Int)).wf = true := wf_small' n (by omega)
/-- A term's parts, filled up to sixteen. -/
def padP (ps : List Int) : List Int := ps ++ List.replicate (16 - ps.length) 0
theorem padP_length {ps : List Int} (h : ps.length ≤ 16) : (padP ps).length = 16 := by simp [padP]; omega
theorem padP_inj {ps qs : List Int} (hl : ps.length = qs.length) (h : padP ps = padP qs) : ps = qs := by
  unfold padP at h
  exact (List.append_inj h hl).1
/-- A term's key. -/
def keyV (n : Nd) : Value := .agg ((Value.int .i64 n.kind :: .string n.text :: .int .i64 n.parts.length :: (padP n.parts).map (Value.int .i64)).toArray)
theorem keyV_inj {n m : Nd} (h : keyV n = keyV m) : n = m := by
  unfold keyV at h
  injection h with h
  have h := congrArg Array.toList h
  simp only [List.cons.injEq, Value.int.injEq, true_and, Value.string.injEq] at h
  obtain ⟨h1, h2, h3, h4⟩ := h
  have h5 : padP n.parts = padP m.parts := by
    have h7 := congrArg (List.map intOf) h4
    simpa [List.map_map, Function.comp_def, intOf] using h7
  have h6 := padP_inj (by omega) h5
  cases n; cases m; simp_all

theorem mapM_isSome {α β : Type} (f : α → Option β) : ∀ l : List α, (∀ x ∈ l, (f x).isSome = true) → (l.mapM f).isSome = true
  | [], _ => by simp
  | a :: l, h => by
    obtain ⟨b, hb⟩ := Option.isSome_iff_exists.1 (h a (by simp))
    obtain ⟨c, hc⟩ := Option.isSome_iff_exists.1 (mapM_isSome f l fun x hx => h x (by simp [hx]))
    simp [List.mapM_cons, hb, hc]
theorem keyLits_int (d : Nat) {n : Int} (h : (Lit.int .i64 n).wf = true) : (Try.prog.keyLits (d + 1) 3 [.int .i64 n]).isSome = true := by
  simp [Program.keyLits, Try.underlying3, h]
theorem keyLits_term (d : Nat) {n : Int} (h : (Lit.int .i64 n).wf = true) : (Try.prog.keyLits (d + 1) 25 [.int .i64 n]).isSome = true := by
  simp [Program.keyLits, Try.underlying25, h]
theorem keyLits_string (d : Nat) {s : ByteArray} (h : s.size ≤ maxLen) : (Try.prog.keyLits (d + 1) 9 [.string s]).isSome = true := by
  simp [Program.keyLits, Try.underlying9, h]
theorem keyLits_parts (d : Nat) {ps : List Int} (hl : ps.length = 16) (h : ∀ p ∈ ps, (Lit.int .i64 p).wf = true) : (Try.prog.keyLits (d + 2) 86 (ps.map (Value.int .i64))).isSome = true := by
  unfold Program.keyLits
  simp only [Try.underlying86, cells_parts, List.length_map, hl, if_true, Option.isSome_map, cells_term, Nat.mul_one]
  refine mapM_isSome _ _ fun i hi => ?_
  have hi' : i < 16 := by simpa using hi
  have e : ((ps.map (Value.int .i64)).drop i).take 1 = [.int .i64 (nth ps i)] := by
    rw [List.take_one, List.head?_drop, List.getElem?_map, nth_lt (by omega)]; rfl
  rw [e]
  exact keyLits_term d (h _ (nth_mem (by omega)))

structure KeyOk (n : Nd) : Prop where
  kind : (Lit.int .i64 n.kind).wf = true
  text : n.text.size ≤ maxLen
  many : n.parts.length ≤ 16
  parts : ∀ p ∈ n.parts, (Lit.int .i64 p).wf = true
theorem key_some {n : Nd} (h : KeyOk n) : ∃ l, keyOf Try.prog 88 (keyV n) = some l := by
  apply Option.isSome_iff_exists.1
  have hp := padP_length h.many
  have hw : ∀ p ∈ padP n.parts, (Lit.int .i64 p).wf = true := by
    intro p hp
    rcases List.mem_append.1 hp with hp | hp
    · exact h.parts p hp
    · rw [List.eq_of_mem_replicate hp]; decide
  have hlen : (keyV n).cells.toList.length = 19 := by simp [keyV, Value.cells, hp]
  have hform : (keyV n).formed Try.prog 88 = true := by
    simp [keyV, Value.formed, Try.underlying88, cells_key, hp]
  obtain ⟨m, hm⟩ := types_pos
  unfold keyOf
  rw [Try.underlying88]
  simp only [key_deep, hform, Bool.and_self, if_true, Option.isSome_map]
  rw [hm]
  unfold Program.keyLits
  rw [Try.underlying88]
  simp only [hlen, cells_key]
  simp only [List.all_toArray, List.all_cons, List.all_nil, Bool.and_true]
  rw [if_pos ⟨by trivial, by decide⟩]
  simp only [Option.isSome_map]
  have hmany : (Lit.int .i64 (n.parts.length : Int)).wf = true := by
    have := h.many
    exact wf_small _ this
  refine mapM_isSome _ _ fun f hf => ?_
  simp only [List.mem_cons, List.not_mem_nil, or_false] at hf
  rcases hf with rfl | rfl | rfl | rfl
  · simpa [keyV, Value.cells, cells_int] using keyLits_int (m + 1) h.kind
  · simpa [keyV, Value.cells, cells_string] using keyLits_string (m + 1) h.text
  · simpa [keyV, Value.cells, cells_int] using keyLits_int (m + 1) hmany
  · have := keyLits_parts m hp hw
    simpa [keyV, Value.cells, cells_parts, List.take_of_length_le, hp] using this
end Go.Proofs.Ytbcicfgffjgpdaa

/- A table of terms in memory; what the map at its side answers. No condition. -/
set_option linter.unusedVariables false
set_option linter.unusedSimpArgs false
namespace Go.Proofs.Ytbcicfgffjgpdaa
open Go Go.RowKit Go.WideMaps

theorem wf_of {x : Int} (h0 : -9223372036854775808 ≤ x) (h1 : x ≤ 9223372036854775807) : (Lit.int .i64 x).wf = true := by
  have := @wrap64_wf x
  rwa [show wrap64 x = x from by unfold wrap64; omega] at this
theorem GoodN.key {i : Nat} {T : List Nd} {n : Nd} (h : GoodN i T n) (hi : i ≤ 65536) : KeyOk n :=
  ⟨wf_of (by have := h.kind; omega) (by have := h.kind; omega), by have := h.text; simp only [maxLen]; omega, h.many, fun p hp => wf_of (by have := h.range p hp; omega) (by have := h.range p hp; omega)⟩

/-- The entries are those of the terms that are no secrets. -/
structure MapOk (T : List Nd) (es : List MapEntry) : Prop where
  sound : ∀ e ∈ es, ∃ (i : Nat) (n : Nd), T[i]? = some n ∧ n.kind ≠ 2 ∧ e.key = keyV n ∧ e.val = .int .i64 ((i : Int) + 1)
  full : ∀ (i : Nat) (n : Nd), T[i]? = some n → n.kind ≠ 2 → ∃ e ∈ es, e.key = keyV n
theorem mapOk_nil : MapOk [] [] := ⟨fun e he => by simp at he, fun i n h => by simp at h⟩
theorem MapOk.snoc {T : List Nd} {es : List MapEntry} (h : MapOk T es) (n : Nd) (c : Nat) : MapOk (T ++ [n]) (if n.kind = 2 then es else es ++ [⟨keyV n, .int .i64 ((T.length : Int) + 1), c⟩]) := by
  have old : ∀ (i : Nat) (m : Nd), T[i]? = some m → (T ++ [n])[i]? = some m := fun i m hm => by
    rw [List.getElem?_append_left (List.getElem?_eq_some_iff.1 hm).1, hm]
  split
  · rename_i hk
    refine ⟨fun e he => ?_, fun i m hm hk' => ?_⟩
    · obtain ⟨i, m, h1, h2⟩ := h.sound e he
      exact ⟨i, m, old i m h1, h2⟩
    · rw [List.getElem?_append] at hm
      split at hm
      · exact h.full i m hm hk'
      · have := List.mem_of_getElem? hm
        simp at this
        subst this
        exact absurd hk hk'
  · rename_i hk
    refine ⟨fun e he => ?_, fun i m hm hk' => ?_⟩
    · rcases List.mem_append.1 he with he | he
      · obtain ⟨i, m, h1, h2⟩ := h.sound e he
        exact ⟨i, m, old i m h1, h2⟩
      · simp at he
        subst he
        exact ⟨T.length, n, by simp, hk, rfl, rfl⟩
    · rw [List.getElem?_append] at hm
      split at hm
      · obtain ⟨e, he, hkey⟩ := h.full i m hm hk'
        exact ⟨e, List.mem_append_left _ he, hkey⟩
      · have := List.mem_of_getElem? hm
        simp at this
        subst this
        exact ⟨⟨keyV m, .int .i64 ((T.length : Int) + 1), c⟩, List.mem_append_right _ (by simp), rfl⟩

/-- What a look-up answers. -/
def foundT (T : List Nd) (n : Nd) : Int × Bool := match (if n.kind = 2 then none else lookT T n) with | some i => ((i : Int) + 1, true) | none => (0, false)
theorem zero_term (w : World) : (zeroValue 25).run Try.prog w = .ok (.int .i64 0) w := by kernel_rfl
theorem run_lookup_tab {w : World} {mb : Nat} {es : Array MapEntry} {clock : Nat} (hb : w.heap[mb]? = some (.map es clock)) {T : List Nd} (hw : WfT T) (hm : MapOk T es.toList) {n : Nd} (hn : KeyOk n) :
    (Instr.lookup 65 (.map (some mb)) (keyV n) true).run Try.prog w = .ok (.tuple #[.int .i64 (foundT T n).1, .bool (foundT T n).2]) w := by
  obtain ⟨l, hl⟩ := key_some hn
  have hkeys : ∀ e ∈ es.toList, ∃ l, keyOf Try.prog 88 e.key = some l := fun e he => by
    obtain ⟨i, m, h1, h2, h3, h4⟩ := hm.sound e he
    rw [h3]
    exact key_some ((hw.good i m h1).key (by have := hw.len; have := (List.getElem?_eq_some_iff.1 h1).1; omega))
  rcases key_law.find w hl es.toList hkeys with ⟨h1, h2⟩ | ⟨j, e0, h1, h2, h3⟩
  · have hf : foundT T n = (0, false) := by
      unfold foundT
      by_cases hk : n.kind = 2
      · rw [if_pos hk]
      · rw [if_neg hk]
        cases hlk : lookT T n with
        | none => rfl
        | some i =>
          obtain ⟨e, he, hkey⟩ := hm.full i n (lookT_some hlk) hk
          exact absurd hkey (h2 e he)
    rw [hf]
    simp [Instr.lookup, run_underlying Try.underlying65, MapKept.run_getObj_map hb, key_law.check w _ hl, h1, zero_term, Result.andThen]
  · obtain ⟨i, m, g1, g2, g3, g4⟩ := hm.sound e0 (List.mem_of_getElem? h2)
    have : m = n := keyV_inj (g3.symm.trans h3)
    subst this
    have hf : foundT T m = ((i : Int) + 1, true) := by
      unfold foundT
      rw [if_neg g2, lookT_of hw g1 g2]
    rw [hf]
    simp [Instr.lookup, run_underlying Try.underlying65, MapKept.run_getObj_map hb, key_law.check w _ hl, h1, g4, Result.andThen]

theorem run_update_tab {w : World} {mb : Nat} {es : Array MapEntry} {clock : Nat} (hb : w.heap[mb]? = some (.map es clock)) {T : List Nd} (hw : WfT T) (hm : MapOk T es.toList) {n : Nd} (hn : KeyOk n) (hno : ∀ i : Nat, T[i]? ≠ some n) (v : Value) :
    (Instr.mapUpdate 65 (.map (some mb)) (keyV n) v).run Try.prog w = .ok () (ChangeMaps.setBlock w mb (.map (es.push ⟨keyV n, v, clock⟩) (clock + 1))) := by
  obtain ⟨l, hl⟩ := key_some hn
  have hkeys : ∀ e ∈ es.toList, ∃ l, keyOf Try.prog 88 e.key = some l := fun e he => by
    obtain ⟨i, m, h1, h2, h3, h4⟩ := hm.sound e he
    rw [h3]
    exact key_some ((hw.good i m h1).key (by have := hw.len; have := (List.getElem?_eq_some_iff.1 h1).1; omega))
  rcases key_law.find w hl es.toList hkeys with ⟨h1, h2⟩ | ⟨j, e0, h1, h2, h3⟩
  · simp [Instr.mapUpdate, run_underlying Try.underlying65, MapKept.run_getObj_map hb, key_law.check w false hl, h1, MapKept.run_setObj_map _ hb, Result.andThen, ChangeMaps.setBlock]
  · obtain ⟨i, m, g1, g2, g3, g4⟩ := hm.sound e0 (List.mem_of_getElem? h2)
    have : m = n := keyV_inj (g3.symm.trans h3)
    subst this
    exact absurd g1 (hno i)

/-- The cells of the terms, one behind the other. -/
structure CellsOk (B : Nat) (w : World) (T : List Nd) (cs : List Value) : Prop where
  kind : ∀ (i : Nat) (n : Nd), T[i]? = some n → cs[i * 3]? = some (.int .i64 n.kind)
  text : ∀ (i : Nat) (n : Nd), T[i]? = some n → cs[i * 3 + 1]? = some (.string n.text)
  parts : ∀ (i : Nat) (n : Nd), T[i]? = some n → ∃ A c, cs[i * 3 + 2]? = some (.slice A n.parts.length c) ∧ Rds B w .i64 A n.parts.length c n.parts
theorem CellsOk.frm {B : Nat} {w w' : World} {T : List Nd} {cs : List Value} (h : CellsOk B w T cs) (hf : Frm spO B w w') : CellsOk B w' T cs :=
  ⟨h.kind, h.text, fun i n e => by obtain ⟨A, c, h1, h2⟩ := h.parts i n e; exact ⟨A, c, h1, h2.frm hf⟩⟩
theorem CellsOk.frm' {C : Obj → Bool} {B B' : Nat} {w w' : World} {T : List Nd} {cs : List Value} (h : CellsOk B w T cs) (hf : Frm C B' w w') (hB : B ≤ B') (hs : ∀ o, C o = true → spO o = true) : CellsOk B w' T cs :=
  h.frm ⟨hf.os, hf.tape, hf.output, hf.size, fun k o hk hh => hf.block k o hk (hh.imp (fun x => by omega) fun x => by cases hx : C o with | false => rfl | true => rw [hs o hx] at x; cases x)⟩
theorem CellsOk.snoc {B : Nat} {w : World} {T : List Nd} {cs : List Value} (h : CellsOk B w T cs) (hl : cs.length = T.length * 3) {n : Nd} {A : Option Addr} {c : Nat} (hr : Rds B w .i64 A n.parts.length c n.parts) :
    CellsOk B w (T ++ [n]) (cs ++ [.int .i64 n.kind, .string n.text, .slice A n.parts.length c]) := by
  have key : ∀ (i : Nat) (m : Nd), (T ++ [n])[i]? = some m → T[i]? = some m ∧ i < T.length ∨ i = T.length ∧ m = n := by
    intro i m hm
    rw [List.getElem?_append] at hm
    split at hm
    · exact .inl ⟨hm, by assumption⟩
    · right
      rcases Nat.lt_or_ge (i - T.length) 1 with h1 | h1
      · have h0 : i - T.length = 0 := by omega
        rw [h0] at hm
        simp at hm
        exact ⟨by omega, hm.symm⟩
      · rw [List.getElem?_eq_none (by simpa using h1)] at hm
        cases hm
  refine ⟨fun i m hm => ?_, fun i m hm => ?_, fun i m hm => ?_⟩
  · rcases key i m hm with ⟨h1, h2⟩ | ⟨rfl, rfl⟩
    · rw [List.getElem?_append_left (by omega)]; exact h.kind i m h1
    · rw [List.getElem?_append_right (by omega), hl]; simp
  · rcases key i m hm with ⟨h1, h2⟩ | ⟨rfl, rfl⟩
    · rw [List.getElem?_append_left (by omega)]; exact h.text i m h1
    · rw [List.getElem?_append_right (by omega), hl]; simp
  · rcases key i m hm with ⟨h1, h2⟩ | ⟨rfl, rfl⟩
    · obtain ⟨A', c', g1, g2⟩ := h.parts i m h1
      exact ⟨A', c', by rw [List.getElem?_append_left (by omega)]; exact g1, g2⟩
    · exact ⟨A, c, by rw [List.getElem?_append_right (by omega), hl]; simp, hr⟩

/-- The types of the blocks of a table. -/
def tabT : Obj → Bool
  | .cells _ t _ => t == 68 || t == 47
  | .map _ _ => true
  | _ => false
/-- A lone node with parts: some function's local variable, never a table's own row. -/
def lone5 (cs : Array Value) : Bool := match cs.toList with
  | [_, _, .slice _ n _] => n != 0
  | _ => false
/-- The blocks that a table turns. -/
def tabO : Obj → Bool
  | .cells cs t _ => t == 68 || (t == 47 && !lone5 cs)
  | .map _ _ => true
  | _ => false
theorem tabO_T : ∀ o, tabO o = true → tabT o = true := by
  intro o h
  unfold tabO at h
  unfold tabT
  split at h
  · simp only [Bool.or_eq_true, Bool.and_eq_true] at h ⊢
    exact h.imp id And.left
  · rfl
  · cases h
theorem tabT_sp : ∀ o, tabT o = true → spO o = true := by
  intro o h
  unfold tabT at h
  unfold spO
  split at h
  · rename_i c t f
    simp only [Bool.or_eq_true, beq_iff_eq] at h
    rcases h with rfl | rfl <;> rfl
  · rfl
  · cases h
theorem tabO_sp : ∀ o, tabO o = true → spO o = true := fun o h => tabT_sp o (tabO_T o h)
theorem Frm.mono {C C' : Obj → Bool} {B : Nat} {w w' : World} (h : Frm C B w w') (hc : ∀ o, C o = true → C' o = true) : Frm C' B w w' :=
  ⟨h.os, h.tape, h.output, h.size, fun k o hk hh => h.block k o hk (hh.imp id fun x => by cases hx : C o with | false => rfl | true => rw [hc o hx] at x; cases x)⟩
theorem Frm.tab_sp {B : Nat} {w w' : World} (h : Frm tabO B w w') : Frm spO B w w' := h.mono tabO_sp

/-- Block tb of w is a table that holds T; all of it lies from B on. -/
def IsTab (B : Nat) (w : World) (tb : Nat) (T : List Nd) : Prop :=
  WfT T ∧ B ≤ tb ∧ ∃ v mb es clock cs, w.heap[tb]? = some (.cells #[v, .map (some mb)] 68 (0, 0)) ∧ B ≤ mb ∧ w.heap[mb]? = some (.map es clock) ∧ MapOk T es.toList ∧
    w.ownsRow B 47 3 v T.length cs ∧ CellsOk B w T cs ∧ (T = [] → v.ownBlock = none)
theorem IsTab.below {B : Nat} {w w' : World} {tb : Nat} {T : List Nd} (h : IsTab B w tb T) (hf : Below w.heap.size w w') : IsTab B w' tb T := by
  obtain ⟨h1, h2, v, mb, es, clock, cs, g1, g2, g3, g4, g5, g6⟩ := h
  exact ⟨h1, h2, v, mb, es, clock, cs, (hf.block _ (lt_of_get g1)).trans g1, g2, (hf.block _ (lt_of_get g3)).trans g3, g4, g5.kept (grown_of_below hf none) (by cases v.ownBlock <;> simp), g6.1.frm (.of_below hf), g6.2⟩
theorem IsTab.frm {C : Obj → Bool} {B B' : Nat} {w w' : World} {tb : Nat} {T : List Nd} (h : IsTab B w tb T) (hf : Frm C B' w w') (hB : B ≤ B') (hc : ∀ o, tabT o = true → C o = false) (hs : ∀ o, C o = true → spO o = true) : IsTab B w' tb T := by
  obtain ⟨h1, h2, v, mb, es, clock, cs, g1, g2, g3, g4, g5, g6⟩ := h
  refine ⟨h1, h2, v, mb, es, clock, cs, hf.block _ _ g1 (.inr (hc _ (by simp [tabT]))), g2, hf.block _ _ g3 (.inr (hc _ rfl)), g4, ⟨g5.1, ?_⟩, g6.1.frm' hf hB hs, g6.2⟩
  rcases g5.2 with k | ⟨g, cap, cur, e, k1, k2, k3⟩
  · exact .inl k
  · exact .inr ⟨g, cap, cur, e, k1, hf.block _ _ k2 (.inr (hc _ (by simp [tabT]))), k3⟩
/-- A table's own row is one that it may turn. -/
theorem row_turns {B : Nat} {w : World} {T : List Nd} {v : Value} {cs : List Value} (hw : WfT T) (hown : w.ownsRow B 47 3 v T.length cs) (hcs : CellsOk B w T cs) (hnil : T = [] → v.ownBlock = none) {k : Nat} {o : Obj} (hk : w.heap[k]? = some o) (e : some k = v.ownBlock) : tabO o = true := by
  rcases hown.2 with ⟨h, _⟩ | ⟨g, cap, cur, h, _, hg, _, _, _, hcur⟩
  · rw [h] at e; simp [Value.ownBlock] at e
  · cases hT : T with
    | nil => rw [hnil hT] at e; cases e
    | cons n0 R =>
      rw [h] at e
      simp only [Value.ownBlock, Option.some.injEq] at e
      subst e
      rw [hg] at hk
      cases hk
      have h0 : T[0]? = some n0 := by rw [hT]; rfl
      obtain ⟨A0, c0, hk0, -⟩ := hcs.parts 0 n0 h0
      have hp0 : n0.parts.length = 0 := by
        cases hp : n0.parts with
        | nil => rfl
        | cons p P =>
          have := (hw.good 0 n0 h0).range p (by rw [hp]; simp)
          omega
      rw [hp0] at hk0
      have hl5 : lone5 cur = false := by
        unfold lone5
        split
        · rename_i a b A n c hl
          rw [← hcur, hl, hT, List.getElem?_take] at hk0
          simp only [List.length_cons] at hk0
          rw [if_pos (by omega)] at hk0
          simp at hk0
          simp [hk0.2.1]
        · rfl
      simp [tabO, hl5]
theorem IsTab.lt {B : Nat} {w : World} {tb : Nat} {T : List Nd} (h : IsTab B w tb T) : tb < w.heap.size := by
  obtain ⟨h1, h2, v, mb, es, clock, cs, g1, _⟩ := h
  exact lt_of_get g1
end Go.Proofs.Ytbcicfgffjgpdaa

/- What (*Table).add does. No condition. -/
set_option linter.unusedVariables false
set_option linter.unusedSimpArgs false
namespace Go.Proofs.Ytbcicfgffjgpdaa
open Go Go.RowKit Go.WideMaps

theorem size_term : (Try.prog.info? 25).map (·.size) = some 1 := by kernel_rfl
theorem size_key : (Try.prog.info? 88).map (·.size) = some 19 := by kernel_rfl
theorem info_node : (Try.prog.info? 47).map (fun i => (i.zero, i.size, i.bytes)) = some (some (.agg #[.int .i64 0, .string ByteArray.empty, .slice none 0 0]), 3, 48) := by kernel_rfl

def keyCells (n : Nd) : Array Value := (Value.int .i64 n.kind :: .string n.text :: .int .i64 n.parts.length :: (padP n.parts).map (Value.int .i64)).toArray
theorem keyCells_size {n : Nd} (h : n.parts.length ≤ 16) : (keyCells n).size = 19 := by simp [keyCells, padP_length h]
/-- The key's block behind the copy. -/
theorem key_copied (kind : Int) (text : ByteArray) (parts : List Int) (h : parts.length ≤ 16) :
    ((#[Value.int .i64 kind, .string text, .int .i64 parts.length, .int .i64 0, .int .i64 0, .int .i64 0, .int .i64 0, .int .i64 0, .int .i64 0, .int .i64 0, .int .i64 0, .int .i64 0, .int .i64 0, .int .i64 0, .int .i64 0, .int .i64 0, .int .i64 0, .int .i64 0, .int .i64 0] : Array Value).toList.take 3 ++ (parts.map (Value.int .i64) ++
     (#[Value.int .i64 kind, .string text, .int .i64 parts.length, .int .i64 0, .int .i64 0, .int .i64 0, .int .i64 0, .int .i64 0, .int .i64 0, .int .i64 0, .int .i64 0, .int .i64 0, .int .i64 0, .int .i64 0, .int .i64 0, .int .i64 0, .int .i64 0, .int .i64 0, .int .i64 0] : Array Value).toList.drop (3 + parts.length))).toArray = keyCells ⟨kind, text, parts⟩ := by
  have e : (#[Value.int .i64 kind, .string text, .int .i64 parts.length, .int .i64 0, .int .i64 0, .int .i64 0, .int .i64 0, .int .i64 0, .int .i64 0, .int .i64 0, .int .i64 0, .int .i64 0, .int .i64 0, .int .i64 0, .int .i64 0, .int .i64 0, .int .i64 0, .int .i64 0, .int .i64 0] : Array Value).toList = [Value.int .i64 kind, .string text, .int .i64 parts.length] ++ List.replicate 16 (.int .i64 0) := rfl
  have e2 : ∀ (x y z : Value) (l : List Value) (k : Nat), List.drop (3 + k) (x :: y :: z :: l) = l.drop k := fun x y z l k => by rw [Nat.add_comm]; rfl
  rw [e]
  simp only [List.cons_append, List.nil_append, List.take_succ_cons, List.take_zero, e2, List.drop_replicate, keyCells, padP, List.map_append, List.map_replicate]

theorem wpStill_lookup {w : World} {ops : Array Oper} {rest : List Oper} {o : Oper} {a : Act} {Q : Act → Prop} (hgd : o.guard = none) (x y : Operand) (ho : o.op = .lookup 65 x y true)
    {mb : Nat} {es : Array MapEntry} {clock : Nat} {T : List Nd} {n : Nd} (hx : a.eval x = .map (some mb)) (hy : a.eval y = keyV n) (hb : w.heap[mb]? = some (.map es clock)) (hw : WfT T) (hm : MapOk T es.toList) (hn : KeyOk n)
    (h : wpStill Try.prog ops w Q rest (a.put o.dst (.tuple #[.int .i64 (foundT T n).1, .bool (foundT T n).2]))) : wpStill Try.prog ops w Q (o :: rest) a := by
  refine wpStill_op hgd ?_ h
  unfold execOp
  simp only [ho, hx, hy, Sem.run_bind, run_lookup_tab hb hw hm hn, Result.andThen_ok, Sem.run_pure]

theorem wp_update {w : World} {ops : Array Oper} {rest : List Oper} {o : Oper} {a : Act} {Q : Exit → Act → World → Prop} (hgd : o.guard = none) (hdst : o.dst = none) (x y z : Operand) (ho : o.op = .mapUpdate 65 x y z)
    {mb : Nat} {es : Array MapEntry} {clock : Nat} {T : List Nd} {n : Nd} {v : Value} (hx : a.eval x = .map (some mb)) (hy : a.eval y = keyV n) (hz : a.eval z = v) (hb : w.heap[mb]? = some (.map es clock)) (hw : WfT T) (hm : MapOk T es.toList) (hn : KeyOk n) (hno : ∀ i : Nat, T[i]? ≠ some n)
    (h : wpList Try.prog ops Q rest a (ChangeMaps.setBlock w mb (.map (es.push ⟨keyV n, v, clock⟩) (clock + 1)))) : wpList Try.prog ops Q (o :: rest) a w := by
  refine wp_op_skip hgd ?_ (by rw [hdst]; exact h)
  unfold execOp
  simp only [ho, hx, hy, hz, Sem.run_bind, run_update_tab hb hw hm hn hno, Result.andThen_ok, Sem.run_pure]
theorem owned_slice {w : World} {base e size n : Nat} {v : Value} {xs : List Value} (h : w.ownsRow base e size v n xs) : ∃ A c, v = .slice A n c := by
  rcases h.2 with ⟨rfl, rfl⟩ | ⟨g, cap, cur, rfl, _⟩
  · exact ⟨none, 0, rfl⟩
  · exact ⟨_, _, rfl⟩

theorem own_ne_tab {w : World} {B e size n tb : Nat} {v : Value} {xs : List Value} {o : Obj} (h : w.ownsRow B e size v n xs) (ho : w.heap[tb]? = some o) (ht : (match o with | .cells _ t _ => t == e | _ => false) = false) : some tb ≠ v.ownBlock := by
  rcases h.2 with ⟨rfl, _⟩ | ⟨g, cap, cur, rfl, _, hg, _⟩
  · simp [Value.ownBlock]
  · intro e
    simp only [Value.ownBlock, Option.some.injEq] at e
    subst e
    rw [hg] at ho
    cases ho
    simp at ht
def AddPost (B tb : Nat) (T : List Nd) (n : Nd) (w : World) (e : Ending) (w' : World) : Prop := e = .returned (.int .i64 (addT T n).2) ∧ IsTab B w' tb (addT T n).1 ∧ Frm tabO B w w'
theorem add_found {B tb : Nat} {T : List Nd} {n : Nd} {w w' : World} {i : Nat} (h : (if n.kind = 2 then none else lookT T n) = some i) (ht : IsTab B w tb T) (hb : Below w.heap.size w w') : AddPost B tb T n w (.returned (.int .i64 ((i : Int) + 1))) w' := by
  unfold AddPost addT
  rw [h]
  exact ⟨rfl, ht.below hb, .of_below hb⟩
theorem add_full {B tb : Nat} {T : List Nd} {n : Nd} {w w' : World} (h : (if n.kind = 2 then none else lookT T n) = none) (hl : T.length = 65536) (ht : IsTab B w tb T) (hb : Below w.heap.size w w') : AddPost B tb T n w (.returned (.int .i64 0)) w' := by
  unfold AddPost addT
  rw [h]
  simp only [if_pos hl]
  exact ⟨trivial, ht.below hb, .of_below hb⟩

theorem grownBy_setCell (w : World) (p : Addr) (u : Value) : w.grownBy (w.setCell p u) (some p.block) :=
  ⟨rfl, rfl, rfl, by simp, fun k hk hne => Below.heap_setCell w p u k (fun e => hne (by rw [e]))⟩
/-- Behind the append and the store. -/
structure AddMid (B : Nat) (w : World) (tb mb g cap : Nat) (T : List Nd) (n : Nd) (P : Option Addr) (c : Nat) (cs : List Value) (es : Array MapEntry) (clock : Nat) (w6 : World) : Prop where
  tab : w6.heap[tb]? = some (.cells #[.slice (some ⟨g, 0, none⟩) (T.length + 1) cap, .map (some mb)] 68 (0, 0))
  map : w6.heap[mb]? = some (.map es clock)
  node : w6.heap[w.heap.size]? = some (.cells #[.int .i64 n.kind, .string n.text, .slice P n.parts.length c] 47 (0, 0))
  key : w6.heap[w.heap.size + 1]? = some (.cells (keyCells n) 88 (0, 0))
  own : w6.ownsRow B 47 3 (.slice (some ⟨g, 0, none⟩) (T.length + 1) cap) (T.length + 1) (cs ++ [.int .i64 n.kind, .string n.text, .slice P n.parts.length c])
  frm : Frm tabO B w w6
theorem add_mid {B : Nat} {w w3 w5 : World} {tb mb g cap : Nat} {T : List Nd} {n : Nd} {A P : Option Addr} {cA c : Nat} {cs : List Value} {es : Array MapEntry} {clock : Nat} (hB : B ≤ tb)
    (h1 : w.heap[tb]? = some (.cells #[.slice A T.length cA, .map (some mb)] 68 (0, 0))) (h3 : w.heap[mb]? = some (.map es clock)) (hown : w.ownsRow B 47 3 (.slice A T.length cA) T.length cs)
    (b3 : Below w.heap.size w w3) (s3 : w3.heap.size = w.heap.size + 2) (f1 : w3.heap[w.heap.size]? = some (.cells #[.int .i64 n.kind, .string n.text, .slice P n.parts.length c] 47 (0, 0)))
    (f2 : w3.heap[w.heap.size + 1]? = some (.cells (keyCells n) 88 (0, 0))) {N : Obj}
    (hown5 : w5.ownsRow B 47 3 (.slice (some ⟨g, 0, none⟩) (T.length + 1) cap) (T.length + 1) (cs ++ [.int .i64 n.kind, .string n.text, .slice P n.parts.length c]))
    (hgr5 : (w3.alloc N).drew.grownBy w5 (Value.slice A T.length cA).ownBlock) (hg5 : (Value.slice A T.length cA).ownBlock = some g ∨ g = w3.heap.size + 1) (hturn : ∀ k o, w.heap[k]? = some o → some k = (Value.slice A T.length cA).ownBlock → tabO o = true) :
    AddMid B w tb mb g cap T n P c cs es clock (w5.setCell ⟨tb, 0, none⟩ (.slice (some ⟨g, 0, none⟩) (T.length + 1) cap)) := by
  have htb := lt_of_get h1
  have hmb := lt_of_get h3
  have hne1 : some tb ≠ (Value.slice A T.length cA).ownBlock := own_ne_tab hown h1 rfl
  have hne2 : some mb ≠ (Value.slice A T.length cA).ownBlock := own_ne_tab hown h3 rfl
  have hbig : ∀ k, w.heap.size ≤ k → some k ≠ (Value.slice A T.length cA).ownBlock := fun k hk e => by
    have := (hown.lt k e.symm).2
    omega
  have hgt : g ≠ tb := by
    rintro rfl
    rcases hg5 with h | h
    · exact hne1 h.symm
    · omega
  have hmt : mb ≠ tb := by
    rintro rfl
    rw [h1] at h3
    cases h3
  have old : ∀ k, k < w3.heap.size → some k ≠ (Value.slice A T.length cA).ownBlock → w5.heap[k]? = w3.heap[k]? := fun k hk hne =>
    (hgr5.block k (by simp; omega) hne).trans (alloc_old hk)
  have old6 : ∀ k, k < w3.heap.size → k ≠ tb → some k ≠ (Value.slice A T.length cA).ownBlock → (w5.setCell ⟨tb, 0, none⟩ (.slice (some ⟨g, 0, none⟩) (T.length + 1) cap)).heap[k]? = w3.heap[k]? := fun k hk hk2 hne =>
    (Below.heap_setCell w5 _ _ k hk2).trans (old k hk hne)
  have e5 : w5.heap[tb]? = some (.cells #[.slice A T.length cA, .map (some mb)] 68 (0, 0)) := (old tb (by omega) hne1).trans ((b3.block tb htb).trans h1)
  refine ⟨heap_setCell_same w5 tb 0 _ _ _ e5, (old6 mb (by omega) hmt hne2).trans ((b3.block mb hmb).trans h3), (old6 _ (by omega) (by omega) (hbig _ (Nat.le_refl _))).trans f1, (old6 _ (by omega) (by omega) (hbig _ (by omega))).trans f2,
    hown5.kept (grownBy_setCell w5 _ _) (.inr (by simp [Value.ownBlock]; exact hgt)), ⟨?_, ?_, ?_, ?_, fun k o hk hc => ?_⟩⟩
  · exact hgr5.os.trans b3.os
  · exact hgr5.tape.trans b3.tape
  · exact hgr5.output.trans b3.output
  · have := hgr5.size; simp at this ⊢; omega
  · have hkl := lt_of_get hk
    have hkt : k ≠ tb := by
      rintro rfl
      rw [h1] at hk
      cases hk
      rcases hc with hc | hc
      · omega
      · simp [tabO] at hc
    have hko : some k ≠ (Value.slice A T.length cA).ownBlock := by
      intro e
      have hb := (hown.lt k e.symm).1
      have ht := hturn k o hk e
      rcases hc with hc | hc
      · omega
      · rw [ht] at hc; cases hc
    exact (old6 k (by omega) hkt hko).trans ((b3.block k hkl).trans hk)
theorem isTab_push {B : Nat} {w w6 w7 : World} {tb mb g cap : Nat} {T : List Nd} {n : Nd} {P : Option Addr} {c : Nat} {cs : List Value} {es : Array MapEntry} {clock : Nat} (M : AddMid B w tb mb g cap T n P c cs es clock w6)
    (hw : WfT T) (hB : B ≤ tb) (hmb : B ≤ mb) (hm : MapOk T es.toList) (hcs : CellsOk B w T cs) (hl : cs.length = T.length * 3) (hg : GoodN T.length T n) (hr : Rds B w .i64 P n.parts.length c n.parts) (hq : (if n.kind = 2 then none else lookT T n) = none) (hlt : T.length < 65536)
    (hw7 : w7 = if n.kind = 2 then w6 else ChangeMaps.setBlock w6.drew mb (.map (es.push ⟨keyV n, .int .i64 ((T.length : Int) + 1), clock⟩) (clock + 1))) :
    AddPost B tb T n w (.returned (.int .i64 ((T.length : Int) + 1))) w7 := by
  have hadd : addT T n = (T ++ [n], (T.length : Int) + 1) := by
    unfold addT
    rw [hq]
    simp only [if_neg (show ¬ T.length = 65536 by omega)]
  have hwf : WfT (T ++ [n]) := wfT_snoc hw hg hlt fun hk => by rw [if_neg hk] at hq; exact lookT_none hq
  have hmo := hm.snoc n clock
  unfold AddPost
  rw [hadd]
  refine ⟨rfl, ?_⟩
  by_cases hk : n.kind = 2
  · rw [if_pos hk] at hw7 hmo
    subst hw7
    exact ⟨⟨hwf, hB, _, mb, es, clock, _, M.tab, hmb, M.map, hmo, by simpa using M.own, (hcs.frm M.frm.tab_sp).snoc hl (hr.frm M.frm.tab_sp), fun h => by simp at h⟩, M.frm⟩
  · rw [if_neg hk] at hw7 hmo
    have hml := lt_of_get M.map
    have at_mb : w7.heap[mb]? = some (.map (es.push ⟨keyV n, .int .i64 ((T.length : Int) + 1), clock⟩) (clock + 1)) := by
      rw [hw7]; simp [ChangeMaps.setBlock, hml]
    have other : ∀ k, k ≠ mb → w7.heap[k]? = w6.heap[k]? := fun k hk => by
      rw [hw7]; simp only [ChangeMaps.setBlock, World.drew]; rw [Array.getElem?_setIfInBounds_ne (Ne.symm hk)]
    have hsz : w7.heap.size = w6.heap.size := by rw [hw7]; simp [ChangeMaps.setBlock]
    have f67 : Frm tabO B w6 w7 := ⟨by rw [hw7]; rfl, by rw [hw7]; rfl, by rw [hw7]; rfl, by omega, fun k o ho hc => by
      by_cases hkm : k = mb
      · subst hkm
        rw [M.map] at ho
        cases ho
        rcases hc with hc | hc
        · omega
        · simp [tabO] at hc
      · rw [other k hkm]; exact ho⟩
    have hne1 : tb ≠ mb := by
      rintro rfl
      have := M.tab
      rw [M.map] at this
      cases this
    have frm := M.frm.trans f67
    refine ⟨⟨hwf, hB, _, mb, _, clock + 1, _, (other tb hne1).trans M.tab, hmb, at_mb, by simpa using hmo, ⟨by have := M.own.1; simpa using this, ?_⟩, (hcs.frm frm.tab_sp).snoc hl (hr.frm frm.tab_sp), fun h => by simp at h⟩, frm⟩
    rcases M.own.2 with ⟨h, _⟩ | ⟨g', cap', cur, h, k1, k2, k3⟩
    · cases h
    · refine .inr ⟨g', cap', cur, by simpa using h, k1, (other g' ?_).trans k2, by simpa using k3⟩
      rintro rfl
      rw [M.map] at k2
      cases k2

set_option maxHeartbeats 3200000 in
set_option maxRecDepth 100000 in
theorem add_any {B : Nat} {tb : Nat} {T : List Nd} (kind : Int) (text : ByteArray) (P : Option Addr) (n c : Nat) (parts : List Int) (w : World) (ht : IsTab B w tb T) (hg : GoodN T.length T ⟨kind, text, parts⟩) (hr : Rds B w .i64 P n c parts) :
    Calls Try.prog 40 #[.pointer (some ⟨tb, 0, none⟩), .agg #[.int .i64 kind, .string text, .slice P n c]] w (AddPost B tb T ⟨kind, text, parts⟩ w) := by
  have HG := Lib.hid hg; clear hg
  have HR := Lib.hid hr; clear hr
  have HT := Lib.hid ht
  obtain ⟨hw, hB, v, mb, es, clock, cs, h1, hmb, h3, hm, hown, hcs, hnil⟩ := ht
  have hlen := HR.out.len
  subst hlen
  have hn : parts.length ≤ 16 := HG.out.many
  have htb : tb < w.heap.size := lt_of_get h1
  have hmbl : mb < w.heap.size := lt_of_get h3
  have hTl := hw.len
  obtain ⟨A, cA, rfl⟩ := owned_slice hown
  have HK := Lib.hid (HG.out.key hw.len)
  have Hw := Lib.hid hw
  have H1 := Lib.hid h1
  have H3 := Lib.hid h3
  have Hm := Lib.hid hm
  have Hown := Lib.hid hown
  have Hcs := Lib.hid hcs
  have HTurn : Hid (∀ k o, w.heap[k]? = some o → some k = (Value.slice A T.length cA).ownBlock → tabO o = true) := fun k o hk e => row_turns hw hown hcs hnil hk e
  clear hw h1 h3 hm hown hcs hnil
  go_enter Try.func40, Try.ntmps40
  go_wp2_with ((with_reducible show wpList _ _ _ (Oper.mk _ (Op.store 88 _ _) _ _ _ _ :: _) _ _); (refine wp_store_new rfl rfl 88 _ _ rfl _ #[.int .i64 kind, .string text, .int .i64 parts.length, .int .i64 0, .int .i64 0, .int .i64 0, .int .i64 0, .int .i64 0, .int .i64 0, .int .i64 0, .int .i64 0, .int .i64 0, .int .i64 0, .int .i64 0, .int .i64 0, .int .i64 0, .int .i64 0, .int .i64 0, .int .i64 0] _ (w.heap.size + 1) ?_ rfl rfl size_key rfl ?_ ?_); (simp [World.size_alloc]); (simp [Value.oneCell']))
  refine wp_still_tail 4 (by kernel_rfl) (by kernel_rfl) ?_
  intro w1 hw1
  have b1 : Below w.heap.size w w1 := by rw [hw1]; exact ((((Below.refl _ _).alloc (Nat.le_refl _) _).alloc (by simp) _)).drew
  have f1 : w1.heap[w.heap.size]? = some (.cells #[.int .i64 kind, .string text, .slice P parts.length c] 47 (0, 0)) := by
    rw [hw1]; exact heap_alloc2_old w _ _
  have f2 : w1.heap[w.heap.size + 1]? = some (.cells #[.int .i64 kind, .string text, .int .i64 parts.length, .int .i64 0, .int .i64 0, .int .i64 0, .int .i64 0, .int .i64 0, .int .i64 0, .int .i64 0, .int .i64 0, .int .i64 0, .int .i64 0, .int .i64 0, .int .i64 0, .int .i64 0, .int .i64 0, .int .i64 0, .int .i64 0] 88 (0, 0)) := by
    rw [hw1]; exact heap_alloc2_new w _ _
  have s1 : w1.heap.size = w.heap.size + 2 := by rw [hw1]; simp
  have c2 : w1.cell? ⟨w.heap.size, 2, none⟩ = some (.slice P parts.length c) := by rw [cell_of_row w1 w.heap.size 2 _ _ _ f1]; rfl
  have B1 := Lib.hid b1
  have F1 := Lib.hid f1
  have F2 := Lib.hid f2
  have S1 := Lib.hid s1
  clear b1 f1 f2 s1 hw1
  simp only [List.take_succ_cons, List.take_zero, List.drop_succ_cons, List.drop_zero]
  repeat still_step
  refine wpStill_nil ?_
  refine wp_copy_row rfl _ _ _ _ rfl 25 Try.underlying35 size_term (w.heap.size + 1) 3 16 16 P parts.length c rfl rfl _ _ F2.out .i64 parts ((HR.out.below B1.out).cell) rfl hn (by simp; omega) ?_
  rw [key_copied kind text parts hn]
  obtain ⟨w2, hw2⟩ : ∃ w2, w2 = w1.setRow (w.heap.size + 1) (keyCells ⟨kind, text, parts⟩) := ⟨_, rfl⟩
  rw [← hw2]
  have b2 : Below w.heap.size w w2 := by rw [hw2]; exact below_setRow B1.out (by omega) _
  have f1 : w2.heap[w.heap.size]? = some (.cells #[.int .i64 kind, .string text, .slice P parts.length c] 47 (0, 0)) := by
    rw [hw2, setRow_other w1 _ _ _ (by omega)]; exact F1.out
  have f2 : w2.heap[w.heap.size + 1]? = some (.cells (keyCells ⟨kind, text, parts⟩) 88 (0, 0)) := by
    rw [hw2]; exact setRow_heap w1 _ _ _ _ _ F2.out
  have s2 : w2.heap.size = w.heap.size + 2 := by rw [hw2, size_setRow]; exact S1.out
  clear hw2 c2 B1 F1 F2 S1
  have B2 := Lib.hid b2
  have F1 := Lib.hid f1
  have F2 := Lib.hid f2
  have S2 := Lib.hid s2
  clear b2 f1 f2 s2
  go_wp2_with fail
  refine wp_still_all (by kernel_rfl) (by kernel_rfl) ?_
  intro w3 hw3
  have b3 : Below w.heap.size w w3 := by rw [hw3]; exact B2.out.drew
  have f1 : w3.heap[w.heap.size]? = some (.cells #[.int .i64 kind, .string text, .slice P parts.length c] 47 (0, 0)) := by rw [hw3]; exact F1.out
  have f2 : w3.heap[w.heap.size + 1]? = some (.cells (keyCells ⟨kind, text, parts⟩) 88 (0, 0)) := by rw [hw3]; exact F2.out
  have s3 : w3.heap.size = w.heap.size + 2 := by rw [hw3]; exact S2.out
  have t1 : w3.heap[tb]? = some (.cells #[.slice A T.length cA, .map (some mb)] 68 (0, 0)) := (b3.block _ htb).trans H1.out
  have t3 : w3.heap[mb]? = some (.map es clock) := (b3.block _ hmbl).trans H3.out
  clear hw3 B2 F1 F2 S2
  have c0 : w3.cell? ⟨tb, 0, none⟩ = some (.slice A T.length cA) := by rw [cell_of_row w3 tb 0 _ _ _ t1]; rfl
  have c1 : w3.cell? ⟨tb, 1, none⟩ = some (.map (some mb)) := by rw [cell_of_row w3 tb 1 _ _ _ t1]; rfl
  have d0 : w3.cell? ⟨w.heap.size, 0, none⟩ = some (.int .i64 kind) := by rw [cell_of_row w3 w.heap.size 0 _ _ _ f1]; rfl
  have d1 : w3.cell? ⟨w.heap.size, 1, none⟩ = some (.string text) := by rw [cell_of_row w3 w.heap.size 1 _ _ _ f1]; rfl
  have d2 : w3.cell? ⟨w.heap.size, 2, none⟩ = some (.slice P parts.length c) := by rw [cell_of_row w3 w.heap.size 2 _ _ _ f1]; rfl
  have B3 := Lib.hid b3
  have F1 := Lib.hid f1
  have F2 := Lib.hid f2
  have S3 := Lib.hid s3
  have T1 := Lib.hid t1
  have T3 := Lib.hid t3
  clear b3 f1 f2 s3 t1 t3
  still_step
  still_step
  still_step
  still_step
  refine wpStill_load_row rfl 88 _ rfl (w.heap.size + 1) rfl _ _ _ _ Try.underlying88 rfl (by rw [keyCells_size hn]; exact size_key) F2.out ?_
  refine wpStill_lookup rfl _ _ rfl (mb := mb) (T := T) (n := ⟨kind, text, parts⟩) rfl rfl T3.out Hw.out Hm.out HK.out ?_
  cases hq : (if (⟨kind, text, parts⟩ : Nd).kind = 2 then none else lookT T ⟨kind, text, parts⟩) with
  | some i =>
    have hf : foundT T ⟨kind, text, parts⟩ = ((i : Int) + 1, true) := by unfold foundT; rw [hq]
    rw [hf]
    have hk2 : (kind != 2) = true := by
      by_cases hk : kind = 2
      · rw [if_pos hk] at hq; cases hq
      · simp [hk]
    have HQ := Lib.hid hq
    clear hq hf
    repeat still_step
    refine wpStill_nil ?_
    go_wp2_with fail
    go_ret
    exact add_found HQ.out HT.out B3.out
  | none =>
    have hf : foundT T ⟨kind, text, parts⟩ = (0, false) := by unfold foundT; rw [hq]
    rw [hf]
    have HQ := Lib.hid hq
    clear hq hf
    repeat still_step
    refine wpStill_nil ?_
    by_cases hfull : T.length = 65536
    · have hfull' : ((T.length : Int) == 65536) = true := by simp; omega
      have HF := Lib.hid hfull
      clear hfull
      go_wp2_with fail
      go_ret
      exact add_full HQ.out HF.out HT.out B3.out
    have hfull' : ((T.length : Int) == 65536) = false := by simp; omega
    have hlt : T.length < 65536 := by omega
    clear hfull
    go_wp2_with fail
    obtain ⟨i0, hi0, hz0, hz1, hz2⟩ := info_parts info_node
    have ON := Lib.hid (((Hown.out.kept (grown_of_below B3.out none) (by cases A <;> simp [Value.ownBlock])).alloc (.cells #[.int .i64 kind, .string text, .slice P parts.length c] 47)).drew)
    have hne : Hid (some tb ≠ (Value.slice A T.length cA).ownBlock) := own_ne_tab ON.out (o := .cells #[.slice A T.length cA, .map (some mb)] 68 (0, 0)) ((alloc_old (by have := S3.out; omega)).trans T1.out) rfl
    have tabcell : Hid (∀ w5, (w3.alloc (.cells #[.int .i64 kind, .string text, .slice P parts.length c] 47)).drew.grownBy w5 (Value.slice A T.length cA).ownBlock → w5.cell? ⟨tb, 0, none⟩ = some (.slice A T.length cA) ∧ w5.frozen? ⟨tb, 0, none⟩ = false) := by
      intro w5 hg
      have e : w5.heap[tb]? = some (.cells #[.slice A T.length cA, .map (some mb)] 68 (0, 0)) := (hg.block tb (by have := S3.out; simp; omega) hne.out).trans ((alloc_old (by have := S3.out; omega)).trans T1.out)
      exact ⟨by rw [cell_of_row w5 tb 0 _ _ _ e]; rfl, frozen_of_row w5 tb 0 _ _ e⟩
    have hnews : Hid (∀ j u, ([.int .i64 kind, .string text, .slice P parts.length c] : List Value)[j]? = some u → (w3.alloc (.cells #[.int .i64 kind, .string text, .slice P parts.length c] 47)).drew.cell? ((⟨w3.heap.size, 0, none⟩ : Addr).add j) = some u) := World.news_of_block (heap_alloc_new w3 _)
    have hone : Hid (∀ u ∈ ([.int .i64 kind, .string text, .slice P parts.length c] : List Value), u.oneCell' = true) := by
      intro u hu; simp at hu; rcases hu with rfl | rfl | rfl <;> rfl
    have hbase : Hid (B ≤ (w3.alloc (.cells #[.int .i64 kind, .string text, .slice P parts.length c] 47)).drew.heap.size) := by have := S3.out; show B ≤ _; simp; omega
    have hml : Hid (T.length + 1 ≤ maxLen) := by show _ ≤ _; simp only [maxLen]; omega
    have hby : Hid ((T.length + 1) * 48 ≤ 140737488355328) := by show _ ≤ _; omega
    have hsz : Hid ((w3.alloc (.cells #[.int .i64 kind, .string text, .slice P parts.length c] 47)).drew.heap.size = w3.heap.size + 1) := by show _ = _; simp
    have htb3 : tb < w3.heap.size := by have := S3.out; omega
    have hws3 : w.heap.size < w3.heap.size := by have := S3.out; omega
    go_region_law ((refine step_append_lies _ rfl (.tmp 48) (.tmp 50) 66 rfl B 47 i0 _ 3 48 Try.underlying66 hi0 hz0 hz1 hz2 rfl (by decide) (.slice A T.length cA) T.length cs (by simp [Act.eval, Act.put]) ON.out ⟨w3.heap.size, 0, none⟩ 1 1 [.int .i64 kind, .string text, .slice P parts.length c] (by simp [Act.eval, Act.put]) rfl hnews.out hone.out (by decide) hml.out hby.out hbase.out (w3.heap.size + 1) hsz.out ?_); intro g cap w5 hown5 hgr5 hg5 hgl5; have HOWN5 := Lib.hid hown5; have HGR5 := Lib.hid hgr5; have HG5 := Lib.hid hg5; obtain ⟨e0, e1⟩ := tabcell.out w5 hgr5; clear hown5 hgr5 hg5)
    all_goals
      have M := Lib.hid (add_mid (n := ⟨kind, text, parts⟩) hB H1.out H3.out Hown.out B3.out S3.out F1.out F2.out HOWN5.out HGR5.out HG5.out HTurn.out)
      obtain ⟨w6, hw6⟩ : ∃ w6, w6 = w5.setCell ⟨tb, 0, none⟩ (.slice (some ⟨g, 0, none⟩) (T.length + 1) cap) := ⟨_, rfl⟩
      rw [← hw6] at M ⊢
      clear hw6 HOWN5 HGR5 HG5 e0 e1 c0 c1 d0 d1 d2 htb3 hws3 ON hne tabcell hnews hone hbase hml hby hsz hgl5
      have c0 : w6.cell? ⟨tb, 0, none⟩ = some (.slice (some ⟨g, 0, none⟩) (T.length + 1) cap) := by rw [cell_of_row w6 tb 0 _ _ _ M.out.tab]; rfl
      have c1 : w6.cell? ⟨tb, 1, none⟩ = some (.map (some mb)) := by rw [cell_of_row w6 tb 1 _ _ _ M.out.tab]; rfl
      have d0 : w6.cell? ⟨w.heap.size, 0, none⟩ = some (.int .i64 kind) := by rw [cell_of_row w6 w.heap.size 0 _ _ _ M.out.node]; rfl
      by_cases hk : kind = 2
      · have hk' : (kind != 2) = false := by simp [hk]
        have HKK := Lib.hid hk
        clear hk
        go_wp2_with fail
        go_ret
        exact isTab_push M.out Hw.out hB hmb Hm.out Hcs.out Hown.out.1 HG.out HR.out HQ.out hlt (by rw [if_pos HKK.out])
      · have hk' : (kind != 2) = true := by simp [hk]
        have HKK := Lib.hid hk
        clear hk
        go_wp2_with fail
        refine wp_still_tail 6 (by kernel_rfl) (by kernel_rfl) ?_
        intro w7 hw7
        have e1 : w7.cell? ⟨tb, 1, none⟩ = some (.map (some mb)) := by rw [hw7]; exact c1
        have m7 : w7.heap[mb]? = some (.map es clock) := by rw [hw7]; exact M.out.map
        have k7 : w7.heap[w.heap.size + 1]? = some (.cells (keyCells ⟨kind, text, parts⟩) 88 (0, 0)) := by rw [hw7]; exact M.out.key
        have M7 := Lib.hid m7
        have K7 := Lib.hid k7
        have W7 := Lib.hid hw7
        clear hw7 m7 k7 c0 c1
        simp only [List.take_succ_cons, List.take_zero, List.drop_succ_cons, List.drop_zero]
        still_step
        still_step
        still_step
        still_step
        refine wpStill_load_row rfl 88 _ rfl (w.heap.size + 1) rfl _ _ _ _ Try.underlying88 rfl (by rw [keyCells_size hn]; exact size_key) K7.out ?_
        still_step
        refine wpStill_nil ?_
        refine wp_update rfl rfl _ _ _ rfl (mb := mb) (T := T) (n := ⟨kind, text, parts⟩) (v := .int .i64 ((T.length : Int) + 1)) rfl rfl rfl M7.out Hw.out Hm.out HK.out (lookT_none (by have := HQ.out; rw [if_neg HKK.out] at this; exact this)) ?_
        rw [W7.out]
        obtain ⟨w8, hw8⟩ : ∃ w8, w8 = ChangeMaps.setBlock w6.drew mb (.map (es.push ⟨keyV ⟨kind, text, parts⟩, .int .i64 ((T.length : Int) + 1), clock⟩) (clock + 1)) := ⟨_, rfl⟩
        rw [← hw8]
        have W8 := Lib.hid hw8
        clear hw8 e1 d0
        go_wp2_with fail
        go_ret
        exact isTab_push M.out Hw.out hB hmb Hm.out Hcs.out Hown.out.1 HG.out HR.out HQ.out hlt (by rw [if_neg HKK.out]; exact W8.out)
end Go.Proofs.Ytbcicfgffjgpdaa

/- What New, Size, Secret, Text, Clone and Look do. No condition. -/
set_option linter.unusedVariables false
set_option linter.unusedSimpArgs false
namespace Go.Proofs.Ytbcicfgffjgpdaa
open Go Go.RowKit Go.WideMaps

/-- A call on a table: its answer, the table behind it, what turned. -/
def TabPost (B tb : Nat) (w : World) (r : List Nd × Int) (e : Ending) (w' : World) : Prop := e = .returned (.int .i64 r.2) ∧ IsTab B w' tb r.1 ∧ Frm tabO B w w'
theorem tabPost_same {B tb : Nat} {w w' : World} {T : List Nd} {h : Int} (ht : IsTab B w tb T) (hb : Below w.heap.size w w') : TabPost B tb w (T, h) (.returned (.int .i64 h)) w' := ⟨rfl, ht.below hb, .of_below hb⟩

def NewPost (w : World) (e : Ending) (w' : World) : Prop := ∃ tb, e = .returned (.pointer (some ⟨tb, 0, none⟩)) ∧ IsTab w.heap.size w' tb [] ∧ Below w.heap.size w w'
set_option maxHeartbeats 800000 in
theorem new_any (w : World) : Calls Try.prog 10 #[] w (NewPost w) := by
  have hmm := @run_makeMap Try.prog
  go_enter Try.func10, Try.ntmps10
  go_wp2_with fail
  go_ret
  have h1 : ((w.alloc (.map #[] 0)).alloc (.cells #[.slice none 0 0, .map (some w.heap.size)] 68)).heap[w.heap.size + 1]? = some (.cells #[.slice none 0 0, .map (some w.heap.size)] 68 (0, 0)) := heap_alloc2_new w _ _
  have h2 : ((w.alloc (.map #[] 0)).alloc (.cells #[.slice none 0 0, .map (some w.heap.size)] 68)).heap[w.heap.size]? = some (.map #[] 0) := heap_alloc2_old w _ _
  refine ⟨w.heap.size + 1, rfl, ⟨wfT_nil, by omega, _, w.heap.size, _, _, [], h1, Nat.le_refl _, h2, mapOk_nil, World.ownsRow_nil _ _ _ _, ⟨fun i n h => by simp at h, fun i n h => by simp at h, fun i n h => by simp at h⟩, fun _ => rfl⟩, ?_⟩
  exact ((Below.refl _ _).alloc (Nat.le_refl _) _).alloc (by simp) _

set_option maxHeartbeats 800000 in
theorem size_any {B tb : Nat} {T : List Nd} (w : World) (ht : IsTab B w tb T) : Calls Try.prog 21 #[.pointer (some ⟨tb, 0, none⟩)] w fun e w' => e = .returned (.int .i64 T.length) ∧ w = w' := by
  obtain ⟨hw, hB, v, mb, es, clock, cs, h1, hmb, h3, hm, hown, hcs⟩ := ht
  obtain ⟨A, cA, rfl⟩ := owned_slice hown
  have c0 : w.cell? ⟨tb, 0, none⟩ = some (.slice A T.length cA) := by rw [cell_of_row w tb 0 _ _ _ h1]; rfl
  have H1 := Lib.hid h1
  have H3 := Lib.hid h3
  clear h1 h3 hown hcs hm hw
  go_enter Try.func21, Try.ntmps21
  go_wp2
  go_ret
  exact ⟨rfl, rfl⟩

theorem good_secret (T : List Nd) : GoodN T.length T ⟨2, ByteArray.empty, []⟩ :=
  ⟨by simp, by decide, by simp, fun p hp => by simp at hp, fun h => rfl, fun _ => ⟨rfl, rfl⟩, fun _ => rfl, fun h => by simp at h, fun h => by simp at h, fun h => by simp at h, fun h => by simp at h, fun h => by simp at h, fun h => by simp at h⟩
theorem good_text (T : List Nd) {b : ByteArray} (h : b.size ≤ 2048) : GoodN T.length T ⟨1, b, []⟩ :=
  ⟨by simp, h, by simp, fun p hp => by simp at hp, fun h => rfl, fun h => by simp at h, fun h => by simp at h, fun h => by simp at h, fun h => by simp at h, fun h => by simp at h, fun h => by simp at h, fun h => by simp at h, fun h => by simp at h⟩

set_option maxHeartbeats 800000 in
theorem secret_any {B tb : Nat} {T : List Nd} (w : World) (ht : IsTab B w tb T) : Calls Try.prog 13 #[.pointer (some ⟨tb, 0, none⟩)] w (TabPost B tb w (secretT T)) := by
  have HT := Lib.hid ht; clear ht
  go_enter Try.func13, Try.ntmps13
  go_wp2_with fail
  refine (add_any (T := T) 2 _ none 0 0 [] w HT.out (good_secret T) (Rds.nil _ _ _)).mono ?_
  rintro e w1 ⟨rfl, ht1, hf1⟩
  have HT1 := Lib.hid ht1
  have HF1 := Lib.hid hf1
  clear ht1 hf1
  go_wp2_with fail
  go_ret
  exact ⟨rfl, HT1.out, HF1.out⟩

theorem run_bytes_string {B' : Nat} {A : Option Addr} {n c : Nat} {xs : List Int} {w : World} (hr : Rds B' w .u8 A n c xs) : (convert 27 9 (.slice A n c)).run Try.prog w = .ok (.string (strOfNums xs)) w := by
  have hl := hr.len
  by_cases h0 : n = 0
  · subst h0
    have : xs = [] := List.eq_nil_of_length_eq_zero hl
    subst this
    cases A with
    | none => exact run_convert_bytes_nil w 27 5 Try.underlying27 Try.underlying5 0 c 9 Try.underlying9
    | some a =>
      rw [run_convert_bytes_string w 27 9 5 _ 0 c Try.underlying27 Try.underlying5 Try.underlying9]
      simp [Conv.bytesToString, loadCells, loadCellsFrom, strOfNums]
      rfl
  · obtain ⟨b, o, rfl, hc⟩ := hr.cell.at_ (by omega)
    exact run_convert_bytes_arg w 27 5 Try.underlying27 Try.underlying5 b o n c xs hl (fun i hi => hc i (by omega)) 9 Try.underlying9

set_option maxHeartbeats 800000 in
set_option maxRecDepth 100000 in
theorem text_any {B B' tb : Nat} {T : List Nd} (A : Option Addr) (n c : Nat) (xs : List Int) (w : World) (ht : IsTab B w tb T) (hr : Rds B' w .u8 A n c xs) : Calls Try.prog 29 #[.pointer (some ⟨tb, 0, none⟩), .slice A n c] w (TabPost B tb w (textT T (strOfNums xs))) := by
  have HT := Lib.hid ht; clear ht
  have hl := Lib.hid hr.len
  have hsz : Hid ((strOfNums xs).size = n) := by show _ = _; rw [strOfNums_size, hr.len]
  by_cases hn : 2048 < n
  · have HR := Lib.hid hr; clear hr
    go_enter Try.func29, Try.ntmps29
    go_wp2_with fail
    go_ret
    unfold textT
    rw [if_neg (by rw [hsz.out]; omega)]
    exact tabPost_same HT.out (Below.refl _ _)
  have hconv := Lib.hid (run_bytes_string (A := A) (c := c) hr)
  have HR := Lib.hid hr; clear hr
  go_enter Try.func29, Try.ntmps29
  go_wp2_with ((with_reducible show wpList _ _ _ (Oper.mk _ (Op.convert 27 9 _) _ _ _ _ :: _) _ _); refine wp_convert rfl _ _ _ rfl rfl hconv.out ?_)
  refine (add_any (T := T) 1 (strOfNums xs) none 0 0 [] w HT.out (good_text T (by rw [hsz.out]; omega)) (Rds.nil _ _ _)).mono ?_
  rintro e w1 ⟨rfl, ht1, hf1⟩
  have HT1 := Lib.hid ht1
  have HF1 := Lib.hid hf1
  clear ht1 hf1
  go_wp2_with fail
  go_ret
  unfold textT
  rw [if_pos (by rw [hsz.out]; omega)]
  exact ⟨rfl, HT1.out, HF1.out⟩
end Go.Proofs.Ytbcicfgffjgpdaa

/- What Clone, Look, kinds, Contains and formed do. No condition. -/
set_option linter.unusedVariables false
set_option linter.unusedSimpArgs false
namespace Go.Proofs.Ytbcicfgffjgpdaa
open Go Go.RowKit Go.WideMaps

def ClonePost (xs : List Int) (w : World) (e : Ending) (w' : World) : Prop := ∃ v, e = .returned v ∧ OwnI w' w.heap.size .i64 v xs ∧ Below w.heap.size w w'
set_option maxHeartbeats 800000 in
set_option maxRecDepth 100000 in
theorem clone_any {B : Nat} (A : Option Addr) (n c : Nat) (xs : List Int) (w : World) (hr : Rds B w .i64 A n c xs) (hn : n ≤ 1000000) : Calls Try.prog 47 #[.slice A n c] w (ClonePost xs w) := by
  have hl := Lib.hid hr.len
  cases A with
  | none =>
    have h0 : n = 0 := by
      rcases Nat.eq_zero_or_pos n with h | h
      · exact h
      · obtain ⟨ad, e, _⟩ := hr.cell 0 (by have := hr.len; omega)
        cases e
    subst h0
    have hx : xs = [] := List.eq_nil_of_length_eq_zero hl.out
    subst hx
    have he := Lib.run_eql_slice_nil (P := Try.prog) w 35 25 none 0 c 0 0 Try.underlying35
    clear hr
    go_enter Try.func47, Try.ntmps47
    go_wp2_with fail
    go_ret
    exact ⟨_, rfl, OwnI.nil _ _ _, Below.refl _ _⟩
  | some a =>
    have he := Lib.run_eql_slice_nil (P := Try.prog) w 35 25 (some a) n c 0 0 Try.underlying35
    have HR := Lib.hid hr
    clear hr
    go_enter Try.func47, Try.ntmps47
    go_wp2_with (at_builtin; refine wp_app_term (xs := []) (ys := xs) rfl _ _ rfl rfl rfl (OwnI.empty (B := w.heap.size) (Nat.le_refl _) sp_term) ?_ hl.out ?_ ?_ ?_)
    · exact (HR.out.below (below_new _)).cell
    · simp
    · simp; omega
    intro v' w3 hv3 hg3 hb3
    try simp only [List.nil_append] at hv3
    have HV := Lib.hid hv3
    clear hv3 hg3
    go_wp2_with fail
    go_ret
    exact ⟨_, rfl, HV.out, ((Below.refl _ _).alloc (Nat.le_refl _) _).trans hb3⟩

theorem frozen_later {w wx : World} {a : Addr} (hb : Below w.heap.size w wx) (hl : a.block < w.heap.size) (h : w.frozen? a = false) : wx.frozen? a = false := (hb.frozen hl).trans h
/-- The term of a number; without one the empty one. -/
def nodeT (T : List Nd) (h : Int) : Nd := (getT T h).getD ⟨0, ByteArray.empty, []⟩
def LookPost (T : List Nd) (h : Int) (w : World) (e : Ending) (w' : World) : Prop :=
  ∃ A c, e = .returned (.tuple #[.agg #[.int .i64 (nodeT T h).kind, .string (nodeT T h).text, .slice A (nodeT T h).parts.length c], .bool (getT T h).isSome]) ∧ OwnI w' w.heap.size .i64 (.slice A (nodeT T h).parts.length c) (nodeT T h).parts ∧ Below w.heap.size w w'
theorem look_none {T : List Nd} {h : Int} (e : getT T h = none) {w w' : World} (hb : Below w.heap.size w w') : LookPost T h w (.returned (.tuple #[.agg #[.int .i64 0, .string ByteArray.empty, .slice none 0 0], .bool false])) w' := by
  unfold LookPost nodeT
  rw [e]
  exact ⟨none, 0, rfl, OwnI.nil _ _ _, hb⟩
theorem look_some {T : List Nd} {h : Int} {n : Nd} (e : getT T h = some n) {w w' : World} {A : Option Addr} {c : Nat} (ho : OwnI w' w.heap.size .i64 (.slice A n.parts.length c) n.parts) (hb : Below w.heap.size w w') :
    LookPost T h w (.returned (.tuple #[.agg #[.int .i64 n.kind, .string n.text, .slice A n.parts.length c], .bool true])) w' := by
  unfold LookPost nodeT
  rw [e]
  exact ⟨A, c, rfl, ho, hb⟩

set_option maxHeartbeats 1600000 in
set_option maxRecDepth 100000 in
theorem look_any {B tb : Nat} {T : List Nd} (h : Int) (w : World) (ht : IsTab B w tb T) (h0 : -9223372036854775808 ≤ h) (h1 : h ≤ 9223372036854775807) : Calls Try.prog 32 #[.pointer (some ⟨tb, 0, none⟩), .int .i64 h] w (LookPost T h w) := by
  obtain ⟨hw, hB, v, mb, es, clock, cs, g1, hmb, g3, hm, hown, hcs, -⟩ := ht
  obtain ⟨A, cA, rfl⟩ := owned_slice hown
  have c0 : w.cell? ⟨tb, 0, none⟩ = some (.slice A T.length cA) := by rw [cell_of_row w tb 0 _ _ _ g1]; rfl
  have htb : tb < w.heap.size := lt_of_get g1
  have hTl := hw.len
  have Hw := Lib.hid hw
  have Hown := Lib.hid hown
  have Hcs := Lib.hid hcs
  clear hw g1 g3 hm hown hcs
  by_cases hl : h < 1
  · have HN := Lib.hid (getT_none (T := T) (h := h) (by omega))
    go_enter Try.func32, Try.ntmps32
    go_wp2_with fail
    go_returns
    exact look_none HN.out (below_new _)
  by_cases hh : (T.length : Int) < h
  · have HN := Lib.hid (getT_none (T := T) (h := h) (by omega))
    go_enter Try.func32, Try.ntmps32
    go_wp2_with fail
    go_returns
    exact look_none HN.out (below_new _)
  obtain ⟨i, rfl⟩ : ∃ i : Nat, h = (i : Int) + 1 := ⟨(h - 1).toNat, by omega⟩
  have hi : i < T.length := by omega
  obtain ⟨n, hn⟩ : ∃ n, T[i]? = some n := ⟨_, List.getElem?_eq_getElem hi⟩
  have HG := Lib.hid ((getT_nat i).trans hn)
  have hgood := Lib.hid (Hw.out.good i n hn)
  obtain ⟨g, cap, e1, hfrm⟩ := Hown.out.form (by omega)
  cases e1
  obtain ⟨AP, cP, hp1, hp2⟩ := Hcs.out.parts i n hn
  have k0 : w.cell? ⟨g, i * 3, none⟩ = some (.int .i64 n.kind) := by rw [Hown.out.cellAt _ (by omega)]; exact Hcs.out.kind i n hn
  have k1 : w.cell? ⟨g, i * 3 + 1, none⟩ = some (.string n.text) := by rw [Hown.out.cellAt _ (by omega)]; exact Hcs.out.text i n hn
  have k2 : w.cell? ⟨g, i * 3 + 2, none⟩ = some (.slice AP n.parts.length cP) := by rw [Hown.out.cellAt _ (by omega)]; exact hp1
  have HP := Lib.hid hp2
  have hgl := hfrm.2
  have hi0 : (0 : Int) ≤ (i : Int) := by omega
  have hiT : (i : Int) < (T.length : Int) := by omega
  clear hp1 hp2 hn hfrm
  go_enter Try.func32, Try.ntmps32
  go_wp2_with fail
  have hmany := hgood.out.many
  go_region_law ((go_simp; go_at_call 47; refine (clone_any _ _ _ _ _ ((HP.out.below ((((Below.refl _ _).alloc (Nat.le_refl _) _).alloc (by simp) _)).drew)) (by omega)).mono ?_; rintro e w1 ⟨v, rfl, hv, hb1⟩; obtain ⟨A1, c1, rfl⟩ := hv.slice; have HV := Lib.hid hv; have HB1 := Lib.hid hb1; have q0 := cell_later hb1 (a := ⟨w.heap.size + 1, 0, none⟩) (v := .int .i64 n.kind) (by simp [go_sem]); have q1 := cell_later hb1 (a := ⟨w.heap.size + 1, 1, none⟩) (v := .string n.text) (by simp [go_sem]); have r0 := cell_later hb1 (a := ⟨w.heap.size, 0, none⟩) (v := .int .i64 0) (by simp [go_sem]); have r1 := cell_later hb1 (a := ⟨w.heap.size, 1, none⟩) (v := .string ⟨#[]⟩) (by simp [go_sem]); have r2 := cell_later hb1 (a := ⟨w.heap.size, 2, none⟩) (v := .slice none 0 0) (by simp [go_sem]); have z0 := frozen_later hb1 (a := ⟨w.heap.size, 0, none⟩) (by simp; omega) (by simp [go_sem]); have z1 := frozen_later hb1 (a := ⟨w.heap.size, 1, none⟩) (by simp; omega) (by simp [go_sem]); have z2 := frozen_later hb1 (a := ⟨w.heap.size, 2, none⟩) (by simp; omega) (by simp [go_sem]); clear hv hb1))
  all_goals
    have s0 := World.cell?_setCell_same w1 ⟨w.heap.size, 0, none⟩ (.int .i64 n.kind) r0
    have s1 := World.cell?_setCell_same (w1.setCell ⟨w.heap.size, 0, none⟩ (.int .i64 n.kind)) ⟨w.heap.size, 1, none⟩ (.string n.text) ((World.cell?_setCell_other _ _ _ _ (by simp)).trans r1)
    have s2 := World.cell?_setCell_same ((w1.setCell ⟨w.heap.size, 0, none⟩ (.int .i64 n.kind)).setCell ⟨w.heap.size, 1, none⟩ (.string n.text)) ⟨w.heap.size, 2, none⟩ (.slice A1 n.parts.length c1) ((World.cell?_setCell_other _ _ _ _ (by simp)).trans ((World.cell?_setCell_other _ _ _ _ (by simp)).trans r2))
    clear r0 r1 r2 q0 q1 z0 z1 z2
    go_wp2_with fail
    (try simp only [Exit.inBlock, Exit.then])
    refine bodyPost_ret (v := .tuple #[.agg #[.int .i64 n.kind, .string n.text, .slice A1 n.parts.length c1], .bool true]) (by simp [results, Try.results32, go_sem, s0, s1, s2]) rfl ?_
    refine look_some HG.out ?_ ?_
    · refine OwnI.mono (B := w.heap.size + 2) ?_ (by omega)
      exact ((((HV.out.mono (by simp)).setBelow (by simp) _).setBelow (by simp) _).setBelow (by simp) _)
    · exact ((((below_next ((((Below.refl _ _).alloc (Nat.le_refl _) _).alloc (by simp) _).drew) (by simp; omega) HB1.out).setCell (Nat.le_refl _) _).setCell (Nat.le_refl _) _).setCell (Nat.le_refl _) _)
end Go.Proofs.Ytbcicfgffjgpdaa

/- What kinds, Contains and formed do. No condition. -/
set_option linter.unusedVariables false
set_option linter.unusedSimpArgs false
namespace Go.Proofs.Ytbcicfgffjgpdaa
open Go Go.RowKit Go.WideMaps

/-- All fit an int. -/
def I64 (xs : List Int) : Prop := ∀ x ∈ xs, -9223372036854775808 ≤ x ∧ x ≤ 9223372036854775807
theorem I64.nth {xs : List Int} (h : I64 xs) (j : Nat) : -9223372036854775808 ≤ nth xs j ∧ nth xs j ≤ 9223372036854775807 := by
  by_cases hj : j < xs.length
  · exact h _ (nth_mem hj)
  · simp [Go.Proofs.Ytbcicfgffjgpdaa.nth, List.getElem?_eq_none (show xs.length ≤ j by omega)]
theorem nodeT_kind (T : List Nd) (h : Int) : (nodeT T h).kind = kindT T h := by
  unfold nodeT kindT
  cases getT T h <;> rfl

def KindsPost (T : List Nd) (xs : List Int) (w : World) (e : Ending) (w' : World) : Prop := ∃ v, e = .returned v ∧ OwnI w' w.heap.size .i64 v (xs.map (kindT T)) ∧ Below w.heap.size w w'
set_option maxHeartbeats 1600000 in
set_option maxRecDepth 100000 in
theorem kinds_any {B B' tb : Nat} {T : List Nd} (A : Option Addr) (n c : Nat) (xs : List Int) (w : World) (ht : IsTab B w tb T) (hr : Rds B' w .i64 A n c xs) (hx : I64 xs) (hn : n ≤ 1000000) :
    Calls Try.prog 44 #[.pointer (some ⟨tb, 0, none⟩), .slice A n c] w (KindsPost T xs w) := by
  have HT := Lib.hid ht; clear ht
  have hl := Lib.hid hr.len
  have HR := Lib.hid hr; clear hr
  have HX := Lib.hid hx; clear hx
  go_enter Try.func44, Try.ntmps44
  go_wp2_with fail
  go_loopw [5, 12] (fun v i wr => ∃ k : Nat, k ≤ n ∧ i = .int .i64 k ∧ OwnI wr w.heap.size .i64 v ((xs.take k).map (kindT T)) ∧ Below w.heap.size w wr) (fun _ i _ => n - (intOf i).toNat)
  case atStart => exact ⟨0, Nat.zero_le _, rfl, OwnI.nil _ _ _, Below.refl _ _⟩
  case round =>
    obtain ⟨k, hk, rfl, hown, hb⟩ := hrel
    have HO := Lib.hid hown
    have HB := Lib.hid hb
    clear hown hb
    by_cases hlt : k < n
    · have hR := HR.out.below HB.out
      obtain ⟨b, o, rfl, hcx⟩ := RdI.at_ hR.cell (by have := hl.out; omega)
      have g1 := hcx k (by have := hl.out; omega)
      clear hcx hR
      have hki := HX.out.nth k
      go_wp2_with fail
      refine (look_any (nth xs k) wr (HT.out.below HB.out) hki.1 hki.2).mono ?_
      rintro e w1 ⟨A1, c1, rfl, ho1, hb1⟩
      have hb1s := hb1.size
      have HB1 := Lib.hid (below_step HB.out hb1)
      have HO1 := Lib.hid (HO.out.below hb1)
      rw [nodeT_kind]
      clear ho1 hb1
      generalize (nodeT T (nth xs k)).text = tx
      generalize (nodeT T (nth xs k)).parts.length = ln
      go_wp2_with (at_builtin; refine wp_app_int (ys := [kindT T (nth xs k)]) rfl _ _ rfl rfl rfl ((HO1.out.below (below_new _)).below (below_new _)) (RdI.one_at _ .i64 _ _ (World.size_alloc _ _)) rfl ?_ ?_ ?_)
      · have := HB1.out.size; simp; omega
      · have := hl.out; simp; omega
      intro v' w3 hv3 hg3 hb3
      have HV := Lib.hid hv3
      have HB3 := Lib.hid (((HB1.out.alloc HB1.out.size _).alloc (by have := HB1.out.size; simp; omega) _).trans hb3)
      clear hv3 hg3 hb3
      go_wp2_with fail
      go_roundw
      case rel => exact ⟨k + 1, by omega, by go_num, by have := HV.out; rw [take_nth_succ (by have := hl.out; omega)]; simpa using this, HB3.out⟩
      case measure => simp [intOf]; omega
    · go_wp2_with fail
      go_ret
      refine ⟨_, rfl, ?_, HB.out⟩
      have := HO.out
      rwa [List.take_of_length_le (by have := hl.out; omega)] at this

def ZeroPost (xs : List Int) (w : World) (e : Ending) (w' : World) : Prop := ∃ r : Int, e = .returned (.int .i64 r) ∧ -1 ≤ r ∧ (r = -1 ↔ (0 : Int) ∉ xs) ∧ w = w'
theorem no_zero {xs : List Int} {n : Nat} (hn : xs.length = n) (h : ∀ j, j < n → nth xs j ≠ 0) : (0 : Int) ∉ xs := by
  intro hx
  obtain ⟨j, hj⟩ := List.mem_iff_getElem?.1 hx
  have hl := (List.getElem?_eq_some_iff.1 hj).1
  rw [nth_lt hl] at hj
  exact h j (by omega) (by simpa using hj)
set_option maxHeartbeats 800000 in
set_option maxRecDepth 100000 in
theorem index_zero {B : Nat} (A : Option Addr) (n c : Nat) (xs : List Int) (w : World) (h : Rds B w .i64 A n c xs) :
    Calls Try.prog 53 #[.slice A n c, .int .i64 0] w (ZeroPost xs w) := by
  have Hl := Lib.hid h.len
  have Hc := Lib.hid h.cell
  have hm : n ≤ 9223372036854775807 := Nat.le_trans h.cap h.max
  clear h
  go_enter Try.func53, Try.ntmps53
  go_wp2_with fail
  go_loop [8] (fun i => ∃ k : Nat, k ≤ n ∧ i = .int .i64 k ∧ Hid (∀ j, j < k → nth xs j ≠ 0)) (fun i => n - (intOf i).toNat)
  case atStart => exact ⟨0, Nat.zero_le _, rfl, fun j hj => by omega⟩
  case round =>
    obtain ⟨k, hk, rfl, hq⟩ := hrel
    by_cases hlt : k < n
    · obtain ⟨b, o, rfl, hcx⟩ := RdI.at_ Hc.out (by have := Hl.out; omega)
      have g1 := hcx k (by have := Hl.out; omega)
      clear hcx
      by_cases hz : nth xs k = 0
      · have hz' : (0 == nth xs k) = true := by simp [hz]
        have HZ := Lib.hid hz; clear hz
        go_wp2_with fail
        go_ret
        exact ⟨k, rfl, by omega, ⟨fun h => by omega, fun h => (h (by rw [← HZ.out]; exact nth_mem (by have := Hl.out; omega))).elim⟩, rfl⟩
      · have hz' : (0 == nth xs k) = false := by simp; exact fun h => hz h.symm
        have HZ := Lib.hid hz; clear hz
        go_wp2_with fail
        go_round
        case rel => exact ⟨k + 1, by omega, by go_num, fun j hj => by
          rcases Nat.lt_or_ge j k with h | h
          · exact hq.out j h
          · obtain rfl : j = k := by omega
            exact HZ.out⟩
        case measure => simp [intOf]; omega
    · go_wp2_with fail
      go_ret
      exact ⟨-1, rfl, by omega, ⟨fun _ => no_zero Hl.out fun j hj => hq.out j (by omega), fun _ => rfl⟩, rfl⟩
def HasZeroPost (xs : List Int) (w : World) (e : Ending) (w' : World) : Prop := e = .returned (.bool (decide ((0 : Int) ∈ xs))) ∧ w = w'
set_option maxHeartbeats 400000 in
theorem contains_zero {B : Nat} (A : Option Addr) (n c : Nat) (xs : List Int) (w : World) (h : Rds B w .i64 A n c xs) :
    Calls Try.prog 45 #[.slice A n c, .int .i64 0] w (HasZeroPost xs w) := by
  have H := Lib.hid h; clear h
  go_enter Try.func45, Try.ntmps45
  go_wp2_with fail
  refine (index_zero A n c xs w H.out).mono ?_
  rintro e w1 ⟨r, rfl, hr, hi, rfl⟩
  have HI := Lib.hid hi; clear hi
  go_wp2_with fail
  go_ret
  refine ⟨?_, rfl⟩
  by_cases h : r = -1
  · have := HI.out.1 h
    subst h
    rw [decide_eq_false this]
    rfl
  · have h2 : (0 : Int) ∈ xs := Classical.byContradiction fun k => h (HI.out.2 k)
    rw [decide_eq_true h2, decide_eq_true (show 0 ≤ r by omega)]
    rfl
end Go.Proofs.Ytbcicfgffjgpdaa

/- How structs of one-cell fields that read as data stand in memory: field by field. No condition. -/
set_option linter.unusedVariables false
set_option linter.unusedSimpArgs false
namespace Go.Proofs.Ytbcicfgffjgpdaa
open Go Go.RowKit Go.ChangeShapes Go.WideShapes Go.ChangeAt

theorem field_trod {H : Type} {enc : TypeId × Value → H} {P : Program} {w : World} {base : Nat} {spare : Nat → Bool} {held : Bool} {e : TypeId} {fs : Array Field} {fuel : Nat} {cs : List Value} {x : DataW H × List MemPlace}
    (he : P.underlying e = some (.struct fs)) (hone : Deep.oneCellFields P fs = true) (h : DataW.trod enc P w base spare held fuel e cs = some x) (hl : cs.length = fs.size) (j : Nat) (f : Field) (hj : fs[j]? = some f) :
    ∃ v y n, cs[j]? = some v ∧ DataW.trod enc P w base spare held n f.type [v] = some y := by
  obtain ⟨ys, n, _, _, _, hyl, hf⟩ := DataW.trod_struct he h
  obtain ⟨ho, hk⟩ := Deep.hone_of hone j f hj
  have hjl : j < fs.size := (Array.getElem?_eq_some_iff.1 hj).1
  have h1 := hf j f hj
  rw [ho, hk] at h1
  have hl' : j < cs.length := by omega
  have h2 : (cs.drop j).take 1 = [cs[j]] := by rw [List.drop_eq_getElem_cons hl']; rfl
  rw [h2, List.getElem?_eq_getElem (show j < ys.length by omega)] at h1
  exact ⟨cs[j], _, n, List.getElem?_eq_getElem hl', h1⟩
theorem cell_i64 {H : Type} {enc : TypeId × Value → H} {P : Program} {w : World} {base : Nat} {spare : Nat → Bool} {held : Bool} {t : TypeId} {fuel : Nat} {v : Value} {x : DataW H × List MemPlace} (ht : P.underlying t = some (.int .i64))
    (h : DataW.trod enc P w base spare held fuel t [v] = some x) : ∃ n, v = .int .i64 n ∧ -9223372036854775808 ≤ n ∧ n ≤ 9223372036854775807 := by
  obtain ⟨n, hv, _, hw⟩ := DataW.trod_int ht h
  have b := bounds_i64 hw
  exact ⟨n, by simpa using hv, by omega, by omega⟩
theorem cell_bool {H : Type} {enc : TypeId × Value → H} {P : Program} {w : World} {base : Nat} {spare : Nat → Bool} {held : Bool} {t : TypeId} {fuel : Nat} {v : Value} {x : DataW H × List MemPlace} (ht : P.underlying t = some .bool)
    (h : DataW.trod enc P w base spare held fuel t [v] = some x) : ∃ b, v = .bool b := by
  obtain ⟨b, hv, _⟩ := DataW.trod_bool ht h
  exact ⟨b, by simpa using hv⟩
theorem cell_string {H : Type} {enc : TypeId × Value → H} {P : Program} {w : World} {base : Nat} {spare : Nat → Bool} {held : Bool} {t : TypeId} {fuel : Nat} {v : Value} {x : DataW H × List MemPlace} (ht : P.underlying t = some .string)
    (h : DataW.trod enc P w base spare held fuel t [v] = some x) : ∃ s : ByteArray, v = .string s ∧ s.size ≤ maxLen := by
  obtain ⟨s, hv, _, hs⟩ := DataW.trod_string ht h
  exact ⟨s, by simpa using hv, hs⟩
/-- A cell that holds a slice of whole numbers. -/
theorem cell_rds {H : Type} {enc : TypeId × Value → H} {P : Program} {w : World} {base : Nat} {held : Bool} {t e : TypeId} {k : IntKind} {fuel : Nat} {v : Value} {x : DataW H × List MemPlace} (ht : P.underlying t = some (.slice e)) (he : P.underlying e = some (.int k)) (hc : P.cellsOf e = 1)
    (h : DataW.trod enc P w base (fun _ => true) held fuel t [v] = some x) : ∃ A c xs, v = .slice A xs.length c ∧ Rds w.heap.size w k A xs.length c xs ∧ ∀ y ∈ xs, (Lit.int k y).wf = true := by
  rcases open_ints ht he hc h with ⟨hcs, _⟩ | ⟨a, l, c, zs, hcs, _, hl, hm, hz, _, hcell, hwz⟩
  · obtain rfl : v = .slice none 0 0 := by simpa using hcs
    exact ⟨none, 0, [], rfl, Rds.nil _ _ _, fun y hy => by simp at hy⟩
  · obtain rfl : v = .slice (some a) l c := by simpa using hcs
    have hz' : zs.length = c := by simpa using hz
    have hlen : (zs.take l).length = l := by simp; omega
    have hn : ∀ j, j < l → nth (zs.take l) j = zs.getD j 0 := fun j hj => by rw [nth_take hj]; rfl
    refine ⟨some a, c, zs.take l, by rw [hlen], ⟨rfl, by omega, by simpa only [maxLen] using hm, fun j hj => ?_, fun p b e => ?_⟩, fun y hy => hwz y (List.mem_of_mem_take hy)⟩
    · have hj' : j < l := by simp at hj; omega
      refine ⟨_, rfl, ?_⟩
      rw [hn j hj']
      exact hcell j (by omega)
    · cases e
      have h0 := hcell 0 (by omega)
      have := World.block_lt_of_cell? _ _ h0
      rw [add_block] at this
      exact ⟨this, .inl this⟩
theorem wf_i64 {x : Int} (h : (Lit.int .i64 x).wf = true) : -9223372036854775808 ≤ x ∧ x ≤ 9223372036854775807 := by
  have := bounds_i64 h
  omega
theorem wf_byte {x : Int} (h : (Lit.int .u8 x).wf = true) : 0 ≤ x ∧ x ≤ 255 := bounds_u8 h
/-- A struct by value, field by field. -/
theorem agg_fields {H : Type} {enc : TypeId × Value → H} {P : Program} {w : World} {r : Reach} {b0 base : Nat} {spare : Nat → Bool} {held : Bool} {t : TypeId} {fs : Array Field} {v : Value} {d : DataW H} {p : List MemPlace} (he : P.underlying t = some (.struct fs)) (hone : Deep.oneCellFields P fs = true) (hC : P.cellsOf t = fs.size)
    (hv : Value.okWide P w r b0 t v) (h : DataW.Trod enc P w base spare held t v d p) :
    ∃ cs : Array Value, v = .agg cs ∧ cs.size = fs.size ∧ ∀ (j : Nat) (f : Field), fs[j]? = some f → ∃ u y n, cs[j]? = some u ∧ DataW.trod enc P w base spare held n f.type [u] = some y := by
  obtain ⟨cs, rfl, hsz⟩ := okWide_struct he hv
  obtain ⟨fuel, hf⟩ := h
  refine ⟨cs, rfl, by omega, fun j f hj => ?_⟩
  have hl : (Value.agg cs).cells.toList.length = fs.size := by simp [Value.cells]; omega
  obtain ⟨u, y, n, e, ht⟩ := field_trod he hone hf hl j f hj
  exact ⟨u, y, n, by simpa [Value.cells] using e, ht⟩
theorem arr3 {cs : Array Value} {a b c : Value} (h : cs.size = 3) (h0 : cs[0]? = some a) (h1 : cs[1]? = some b) (h2 : cs[2]? = some c) : cs = #[a, b, c] := by
  obtain ⟨l⟩ := cs
  match l, h with
  | [x, y, z], _ => simp at h0 h1 h2; rw [h0, h1, h2]
theorem arr5 {cs : Array Value} {a b c d e : Value} (h : cs.size = 5) (h0 : cs[0]? = some a) (h1 : cs[1]? = some b) (h2 : cs[2]? = some c) (h3 : cs[3]? = some d) (h4 : cs[4]? = some e) : cs = #[a, b, c, d, e] := by
  obtain ⟨l⟩ := cs
  match l, h with
  | [x, y, z, u, v], _ => simp at h0 h1 h2 h3 h4; rw [h0, h1, h2, h3, h4]
end Go.Proofs.Ytbcicfgffjgpdaa

/- How the arguments of the laws of layer 8 stand in memory. No condition. -/
set_option linter.unusedVariables false
set_option linter.unusedSimpArgs false
namespace Go.Proofs.Ytbcicfgffjgpdaa
open Go Go.RowKit Go.ChangeShapes Go.WideShapes Go.ChangeAt

def ListArg (w : World) (v : Value) : Prop := ∃ A1 c1 A2 c2 A3 c3 ts fr vs, v = .agg #[.slice A1 (List.length (α := Int) ts) c1, .slice A2 (List.length (α := Int) fr) c2, .slice A3 (List.length (α := Int) vs) c3] ∧
  Rds w.heap.size w .u8 A1 ts.length c1 ts ∧ Byt ts ∧ Rds w.heap.size w .u8 A2 fr.length c2 fr ∧ Byt fr ∧ Rds w.heap.size w .i64 A3 vs.length c3 vs ∧ I64 vs
theorem cells_u8_08 : Try.prog.cellsOf 5 = 1 := by kernel_rfl
theorem cells_int_08 : Try.prog.cellsOf 3 = 1 := by kernel_rfl

def RetryArg (w : World) (v : Value) : Prop := ∃ ver A1 c1 A2 c2 ts fr token tag, v = .agg #[.int .i64 ver, .slice A1 (List.length (α := Int) ts) c1, .slice A2 (List.length (α := Int) fr) c2, .int .i64 token, .int .i64 tag] ∧
  Rds w.heap.size w .u8 A1 ts.length c1 ts ∧ Byt ts ∧ Rds w.heap.size w .u8 A2 fr.length c2 fr ∧ Byt fr ∧ I64 [ver, token, tag]
theorem under_retry08 : ∃ fs : Array Field, Try.prog.underlying 53 = some (.struct fs) ∧ Deep.oneCellFields Try.prog fs = true ∧ Try.prog.cellsOf 53 = fs.size ∧ fs[0]?.map (·.type) = some 3 ∧ fs[1]?.map (·.type) = some 27 ∧ fs[2]?.map (·.type) = some 27 ∧ fs[3]?.map (·.type) = some 3 ∧ fs[4]?.map (·.type) = some 3 ∧ fs.size = 5 :=
  ⟨_, Try.underlying53, by kernel_rfl, by kernel_rfl, rfl, rfl, rfl, rfl, rfl, rfl⟩
set_option maxRecDepth 100000 in
theorem open_retry08 {H : Type} {enc : TypeId × Value → H} {w : World} {r : Reach} {b0 base : Nat} {v : Value} {d : DataW H} {p : List MemPlace} (hv : Value.okWide Try.prog w r b0 53 v)
    (h : DataW.Trod enc Try.prog w base (fun _ => true) true 53 v d p) : RetryArg w v := by
  obtain ⟨fs, hu, hone, hC, f0, f1, f2, f3, f4, hsz⟩ := under_retry08
  obtain ⟨cs, rfl, hl, hf⟩ := agg_fields hu hone hC hv h
  obtain ⟨g0, j0, k0⟩ := Option.map_eq_some_iff.1 f0
  obtain ⟨g1, j1, k1⟩ := Option.map_eq_some_iff.1 f1
  obtain ⟨g2, j2, k2⟩ := Option.map_eq_some_iff.1 f2
  obtain ⟨g3, j3, k3⟩ := Option.map_eq_some_iff.1 f3
  obtain ⟨g4, j4, k4⟩ := Option.map_eq_some_iff.1 f4
  obtain ⟨u0, y0, n0, e0, t0⟩ := hf 0 _ j0
  obtain ⟨u1, y1, n1, e1, t1⟩ := hf 1 _ j1
  obtain ⟨u2, y2, n2, e2, t2⟩ := hf 2 _ j2
  obtain ⟨u3, y3, n3, e3, t3⟩ := hf 3 _ j3
  obtain ⟨u4, y4, n4, e4, t4⟩ := hf 4 _ j4
  rw [k0] at t0
  rw [k1] at t1
  rw [k2] at t2
  rw [k3] at t3
  rw [k4] at t4
  obtain ⟨ver, rfl, w0⟩ := cell_i64 Try.underlying3 t0
  obtain ⟨A1, c1, ts, rfl, r1, w1⟩ := cell_rds Try.underlying27 Try.underlying5 cells_u8_08 t1
  obtain ⟨A2, c2, fr, rfl, r2, w2⟩ := cell_rds Try.underlying27 Try.underlying5 cells_u8_08 t2
  obtain ⟨token, rfl, w3⟩ := cell_i64 Try.underlying3 t3
  obtain ⟨tag, rfl, w4⟩ := cell_i64 Try.underlying3 t4
  exact ⟨ver, A1, c1, A2, c2, ts, fr, token, tag, by rw [arr5 (hl.trans hsz) e0 e1 e2 e3 e4], r1, fun x hx => wf_byte (w1 x hx), r2, fun x hx => wf_byte (w2 x hx), by simp [I64]; omega⟩
end Go.Proofs.Ytbcicfgffjgpdaa

/- How the argument of the laws on two retries stands in memory. No condition. -/
set_option linter.unusedVariables false
set_option linter.unusedSimpArgs false
namespace Go.Proofs.Ytbcicfgffjgpdaa
open Go Go.RowKit Go.ChangeShapes Go.WideShapes Go.ChangeAt

theorem take_at {α : Type} {cs : List α} {o k j : Nat} {u : α} (h : ((cs.drop o).take k)[j]? = some u) : cs[o + j]? = some u := by
  rw [List.getElem?_take] at h
  split at h
  · rwa [List.getElem?_drop] at h
  · cases h
theorem take_len {α : Type} {cs : List α} {o k n : Nat} (h : cs.length = n) (hk : o + k ≤ n) : ((cs.drop o).take k).length = k := by simp; omega
theorem arr12 {cs : Array Value} {a0 a1 a2 a3 a4 a5 a6 a7 a8 a9 a10 a11 : Value} (h : cs.size = 12) (h0 : cs[0]? = some a0) (h1 : cs[1]? = some a1) (h2 : cs[2]? = some a2) (h3 : cs[3]? = some a3) (h4 : cs[4]? = some a4) (h5 : cs[5]? = some a5) (h6 : cs[6]? = some a6) (h7 : cs[7]? = some a7) (h8 : cs[8]? = some a8) (h9 : cs[9]? = some a9) (h10 : cs[10]? = some a10) (h11 : cs[11]? = some a11) :
    cs = #[a0, a1, a2, a3, a4, a5, a6, a7, a8, a9, a10, a11] := by
  obtain ⟨l⟩ := cs
  match l, h with
  | [x0, x1, x2, x3, x4, x5, x6, x7, x8, x9, x10, x11], _ => simp at h0 h1 h2 h3 h4 h5 h6 h7 h8 h9 h10 h11; rw [h0, h1, h2, h3, h4, h5, h6, h7, h8, h9, h10, h11]

/-- The five cells of a retry. -/
structure RetC (w : World) (ver : Int) (A1 : Option Addr) (c1 : Nat) (A2 : Option Addr) (c2 : Nat) (ts fr : List Int) (token tag : Int) : Prop where
  rto : Rds w.heap.size w .u8 A1 ts.length c1 ts
  rfr : Rds w.heap.size w .u8 A2 fr.length c2 fr
  bt : Byt ts
  bf : Byt fr
  nums : I64 [ver, token, tag]
set_option maxRecDepth 100000 in
theorem retry_cells {H : Type} {enc : TypeId × Value → H} {w : World} {base n : Nat} {cs : List Value} {x : DataW H × List MemPlace} (hl : cs.length = 5)
    (h : DataW.trod enc Try.prog w base (fun _ => true) true n 53 cs = some x) :
    ∃ ver A1 c1 A2 c2 ts fr token tag, RetC w ver A1 c1 A2 c2 ts fr token tag ∧ cs[0]? = some (.int .i64 ver) ∧ cs[1]? = some (.slice A1 ts.length c1) ∧ cs[2]? = some (.slice A2 fr.length c2) ∧ cs[3]? = some (.int .i64 token) ∧ cs[4]? = some (.int .i64 tag) := by
  obtain ⟨fs, hu, hone, hC, f0, f1, f2, f3, f4, hsz⟩ := under_retry08
  have hl' : cs.length = fs.size := by omega
  obtain ⟨g0, j0, k0⟩ := Option.map_eq_some_iff.1 f0
  obtain ⟨g1, j1, k1⟩ := Option.map_eq_some_iff.1 f1
  obtain ⟨g2, j2, k2⟩ := Option.map_eq_some_iff.1 f2
  obtain ⟨g3, j3, k3⟩ := Option.map_eq_some_iff.1 f3
  obtain ⟨g4, j4, k4⟩ := Option.map_eq_some_iff.1 f4
  obtain ⟨u0, y0, n0, e0, t0⟩ := field_trod hu hone h hl' 0 _ j0
  obtain ⟨u1, y1, n1, e1, t1⟩ := field_trod hu hone h hl' 1 _ j1
  obtain ⟨u2, y2, n2, e2, t2⟩ := field_trod hu hone h hl' 2 _ j2
  obtain ⟨u3, y3, n3, e3, t3⟩ := field_trod hu hone h hl' 3 _ j3
  obtain ⟨u4, y4, n4, e4, t4⟩ := field_trod hu hone h hl' 4 _ j4
  rw [k0] at t0
  rw [k1] at t1
  rw [k2] at t2
  rw [k3] at t3
  rw [k4] at t4
  obtain ⟨ver, rfl, w0⟩ := cell_i64 Try.underlying3 t0
  obtain ⟨A1, c1, ts, rfl, r1, w1⟩ := cell_rds Try.underlying27 Try.underlying5 cells_u8_08 t1
  obtain ⟨A2, c2, fr, rfl, r2, w2⟩ := cell_rds Try.underlying27 Try.underlying5 cells_u8_08 t2
  obtain ⟨token, rfl, w3⟩ := cell_i64 Try.underlying3 t3
  obtain ⟨tag, rfl, w4⟩ := cell_i64 Try.underlying3 t4
  exact ⟨ver, A1, c1, A2, c2, ts, fr, token, tag, ⟨r1, r2, fun x hx => wf_byte (w1 x hx), fun x hx => wf_byte (w2 x hx), by simp [I64]; omega⟩, e0, e1, e2, e3, e4⟩

def TwoArg (w : World) (v : Value) : Prop := ∃ ver A1 c1 A2 c2 ts fr token tag ver' A1' c1' A2' c2' ts' fr' token' tag' A3 c3 gs A4 c4 os,
  v = .agg #[.int .i64 ver, .slice A1 (List.length (α := Int) ts) c1, .slice A2 (List.length (α := Int) fr) c2, .int .i64 token, .int .i64 tag, .int .i64 ver', .slice A1' (List.length (α := Int) ts') c1', .slice A2' (List.length (α := Int) fr') c2', .int .i64 token', .int .i64 tag', .slice A3 (List.length (α := Int) gs) c3, .slice A4 (List.length (α := Int) os) c4] ∧
  RetC w ver A1 c1 A2 c2 ts fr token tag ∧ RetC w ver' A1' c1' A2' c2' ts' fr' token' tag' ∧ Rds w.heap.size w .u8 A3 gs.length c3 gs ∧ Byt gs ∧ Rds w.heap.size w .u8 A4 os.length c4 os ∧ Byt os
theorem under_two08 : ∃ fs : Array Field, Try.prog.underlying 55 = some (.struct fs) ∧ Try.prog.cellsOf 55 = 12 ∧ fs[0]?.map (fun f => (f.type, f.offset)) = some (53, 0) ∧ fs[1]?.map (fun f => (f.type, f.offset)) = some (53, 5) ∧ fs[2]?.map (fun f => (f.type, f.offset)) = some (27, 10) ∧ fs[3]?.map (fun f => (f.type, f.offset)) = some (27, 11) :=
  ⟨_, Try.underlying55, by kernel_rfl, rfl, rfl, rfl, rfl⟩
theorem cells_retry08 : Try.prog.cellsOf 53 = 5 := by kernel_rfl
theorem cells_bytes08 : Try.prog.cellsOf 27 = 1 := by kernel_rfl
theorem take_one {α : Type} {cs : List α} {o : Nat} (h : o < cs.length) : ∃ v, (cs.drop o).take 1 = [v] ∧ cs[o]? = some v := ⟨cs[o], by rw [List.drop_eq_getElem_cons h]; rfl, List.getElem?_eq_getElem h⟩
set_option maxRecDepth 100000 in
theorem open_two08 {H : Type} {enc : TypeId × Value → H} {w : World} {r : Reach} {b0 base : Nat} {v : Value} {d : DataW H} {p : List MemPlace} (hv : Value.okWide Try.prog w r b0 55 v)
    (h : DataW.Trod enc Try.prog w base (fun _ => true) true 55 v d p) : TwoArg w v := by
  obtain ⟨fs, hu, hC, f0, f1, f2, f3⟩ := under_two08
  obtain ⟨cs, rfl, hsz⟩ := okWide_struct hu hv
  obtain ⟨fuel, hf⟩ := h
  have hl : (Value.agg cs).cells.toList.length = 12 := by simp [Value.cells]; omega
  obtain ⟨ys, n, _, _, _, hyl, hfd⟩ := DataW.trod_struct hu hf
  obtain ⟨g0, j0, k0⟩ := Option.map_eq_some_iff.1 f0
  obtain ⟨g1, j1, k1⟩ := Option.map_eq_some_iff.1 f1
  obtain ⟨g2, j2, k2⟩ := Option.map_eq_some_iff.1 f2
  obtain ⟨g3, j3, k3⟩ := Option.map_eq_some_iff.1 f3
  simp only [Prod.mk.injEq] at k0 k1 k2 k3
  have t0 := hfd 0 _ j0
  have t1 := hfd 1 _ j1
  have t2 := hfd 2 _ j2
  have t3 := hfd 3 _ j3
  rw [k0.1, k0.2, cells_retry08] at t0
  rw [k1.1, k1.2, cells_retry08] at t1
  rw [k2.1, k2.2, cells_bytes08] at t2
  rw [k3.1, k3.2, cells_bytes08] at t3
  have hy : ∀ j, j < 4 → ∃ y, ys[j]? = some y := fun j hj => ⟨_, List.getElem?_eq_getElem (by
    have : fs.size ≥ 4 := by have := (Array.getElem?_eq_some_iff.1 j3).1; omega
    omega)⟩
  obtain ⟨y0, q0⟩ := hy 0 (by omega)
  obtain ⟨y1, q1⟩ := hy 1 (by omega)
  obtain ⟨y2, q2⟩ := hy 2 (by omega)
  obtain ⟨y3, q3⟩ := hy 3 (by omega)
  rw [q0] at t0
  rw [q1] at t1
  rw [q2] at t2
  rw [q3] at t3
  obtain ⟨ver, A1, c1, A2, c2, ts, fr, token, tag, hr, e0, e1, e2, e3, e4⟩ := retry_cells (take_len hl (by omega)) t0
  obtain ⟨ver', A1', c1', A2', c2', ts', fr', token', tag', hr', e0', e1', e2', e3', e4'⟩ := retry_cells (take_len hl (by omega)) t1
  obtain ⟨u2, z2, s2⟩ := take_one (cs := (Value.agg cs).cells.toList) (o := 10) (by omega)
  obtain ⟨u3, z3, s3⟩ := take_one (cs := (Value.agg cs).cells.toList) (o := 11) (by omega)
  rw [z2] at t2
  rw [z3] at t3
  obtain ⟨A3, c3, gs, rfl, r3, w3⟩ := cell_rds Try.underlying27 Try.underlying5 cells_u8_08 t2
  obtain ⟨A4, c4, os, rfl, r4, w4⟩ := cell_rds Try.underlying27 Try.underlying5 cells_u8_08 t3
  have at_ : ∀ {j : Nat} {u : Value}, (Value.agg cs).cells.toList[j]? = some u → cs[j]? = some u := fun h => by simpa [Value.cells] using h
  refine ⟨ver, A1, c1, A2, c2, ts, fr, token, tag, ver', A1', c1', A2', c2', ts', fr', token', tag', A3, c3, gs, A4, c4, os, ?_, hr, hr', r3, fun x hx => wf_byte (w3 x hx), r4, fun x hx => wf_byte (w4 x hx)⟩
  congr 1
  exact arr12 (by omega) (at_ (take_at e0)) (at_ (take_at e1)) (at_ (take_at e2)) (at_ (take_at e3)) (at_ (take_at e4)) (at_ (take_at e0')) (at_ (take_at e1')) (at_ (take_at e2')) (at_ (take_at e3')) (at_ (take_at e4')) (at_ s2) (at_ s3)
end Go.Proofs.Ytbcicfgffjgpdaa

/- What formed does. No condition. -/
set_option linter.unusedVariables false
set_option linter.unusedSimpArgs false
namespace Go.Proofs.Ytbcicfgffjgpdaa
open Go Go.RowKit Go.WideMaps

def FormPost (r : Bool) (w : World) (e : Ending) (w' : World) : Prop := e = .returned (.bool r) ∧ w = w'
theorem form_of {r r' : Bool} (h : r = r') (w : World) : FormPost r' w (.returned (.bool r)) w := ⟨by rw [h], rfl⟩

set_option maxHeartbeats 800000 in
set_option maxRecDepth 100000 in
theorem formed_3 {B : Nat} (A : Option Addr) (n c : Nat) (l : List Int) (w : World) (hr : Rds B w .i64 A n c l) : Calls Try.prog 46 #[.int .i64 3, .slice A n c] w (FormPost (formedT 3 l) w) := by
  have hl := Lib.hid hr.len
  clear hr
  by_cases h : n ≤ 16
  · have h' : decide ((n : Int) ≤ 16) = true := by simp; omega
    go_enter Try.func46, Try.ntmps46
    go_wp2_with fail
    go_ret
    exact form_of (by have := hl.out; simp [formedT]; omega) _
  · have h' : decide ((n : Int) ≤ 16) = false := by simp; omega
    go_enter Try.func46, Try.ntmps46
    go_wp2_with fail
    go_ret
    exact form_of (by have := hl.out; simp [formedT]; omega) _

set_option maxHeartbeats 800000 in
set_option maxRecDepth 100000 in
theorem formed_4 {B : Nat} (A : Option Addr) (n c : Nat) (l : List Int) (w : World) (hr : Rds B w .i64 A n c l) : Calls Try.prog 46 #[.int .i64 4, .slice A n c] w (FormPost (formedT 4 l) w) := by
  have hl := Lib.hid hr.len
  clear hr
  by_cases h : n = 1
  · have h' : ((n : Int) == 1) = true := by simp; omega
    have h2 := Lib.hid h; clear h
    go_enter Try.func46, Try.ntmps46
    go_wp2_with fail
    go_ret
    exact form_of (by have := hl.out; have := h2.out; simp [formedT]; omega) _
  · have h' : ((n : Int) == 1) = false := by simp; omega
    go_enter Try.func46, Try.ntmps46
    go_wp2_with fail
    go_ret
    exact form_of (by have := hl.out; simp [formedT]; omega) _

set_option maxHeartbeats 800000 in
set_option maxRecDepth 100000 in
theorem formed_5 {B : Nat} (A : Option Addr) (n c : Nat) (l : List Int) (w : World) (hr : Rds B w .i64 A n c l) : Calls Try.prog 46 #[.int .i64 5, .slice A n c] w (FormPost (formedT 5 l) w) := by
  have hl := Lib.hid hr.len
  clear hr
  by_cases h : n = 2
  · have h' : ((n : Int) == 2) = true := by simp; omega
    have h2 := Lib.hid h; clear h
    go_enter Try.func46, Try.ntmps46
    go_wp2_with fail
    go_ret
    exact form_of (by have := hl.out; have := h2.out; simp [formedT]; omega) _
  · have h' : ((n : Int) == 2) = false := by simp; omega
    go_enter Try.func46, Try.ntmps46
    go_wp2_with fail
    go_ret
    exact form_of (by have := hl.out; simp [formedT]; omega) _

set_option maxHeartbeats 800000 in
set_option maxRecDepth 100000 in
theorem formed_6 {B : Nat} (A : Option Addr) (n c : Nat) (l : List Int) (w : World) (hr : Rds B w .i64 A n c l) : Calls Try.prog 46 #[.int .i64 6, .slice A n c] w (FormPost (formedT 6 l) w) := by
  have hl := Lib.hid hr.len
  by_cases h : n = 3
  rotate_left
  · have h' : ((n : Int) == 3) = false := by simp; omega
    clear hr
    go_enter Try.func46, Try.ntmps46
    go_wp2_with fail
    go_ret
    exact form_of (by have := hl.out; simp [formedT]; omega) _
  subst h
  obtain ⟨b, o, rfl, hc⟩ := hr.cell.at_ (by have := hl.out; omega)
  have c1 := hc 1 (by have := hl.out; omega)
  clear hc hr
  by_cases x1 : nth l 1 = 1
  rotate_left
  · have y1 : (nth l 1 == 1) = false := by simp [x1]
    have x1 := Lib.hid x1
    go_enter Try.func46, Try.ntmps46
    go_wp2_with fail
    go_ret
    exact form_of (by have := hl.out; have := x1.out; simp [formedT]; omega) _
  have y1 : (nth l 1 == 1) = true := by simp [x1]
  have x1 := Lib.hid x1
  go_enter Try.func46, Try.ntmps46
  go_wp2_with fail
  go_ret
  exact form_of (by have := hl.out; simp [formedT, x1.out]; omega) _

set_option maxHeartbeats 800000 in
set_option maxRecDepth 100000 in
theorem formed_10 {B : Nat} (A : Option Addr) (n c : Nat) (l : List Int) (w : World) (hr : Rds B w .i64 A n c l) : Calls Try.prog 46 #[.int .i64 10, .slice A n c] w (FormPost (formedT 10 l) w) := by
  have hl := Lib.hid hr.len
  by_cases h : n = 3
  rotate_left
  · have h' : ((n : Int) == 3) = false := by simp; omega
    clear hr
    go_enter Try.func46, Try.ntmps46
    go_wp2_with fail
    go_ret
    exact form_of (by have := hl.out; simp [formedT]; omega) _
  subst h
  obtain ⟨b, o, rfl, hc⟩ := hr.cell.at_ (by have := hl.out; omega)
  have c1 := hc 1 (by have := hl.out; omega)
  clear hc hr
  by_cases x1 : nth l 1 = 1
  rotate_left
  · have y1 : (nth l 1 == 1) = false := by simp [x1]
    have x1 := Lib.hid x1
    go_enter Try.func46, Try.ntmps46
    go_wp2_with fail
    go_ret
    exact form_of (by have := hl.out; have := x1.out; simp [formedT]; omega) _
  have y1 : (nth l 1 == 1) = true := by simp [x1]
  have x1 := Lib.hid x1
  go_enter Try.func46, Try.ntmps46
  go_wp2_with fail
  go_ret
  exact form_of (by have := hl.out; simp [formedT, x1.out]; omega) _

set_option maxHeartbeats 800000 in
set_option maxRecDepth 100000 in
theorem formed_7 {B : Nat} (A : Option Addr) (n c : Nat) (l : List Int) (w : World) (hr : Rds B w .i64 A n c l) : Calls Try.prog 46 #[.int .i64 7, .slice A n c] w (FormPost (formedT 7 l) w) := by
  have hl := Lib.hid hr.len
  by_cases h : n = 1
  rotate_left
  · have h' : ((n : Int) == 1) = false := by simp; omega
    clear hr
    go_enter Try.func46, Try.ntmps46
    go_wp2_with fail
    go_ret
    exact form_of (by have := hl.out; simp [formedT]; omega) _
  subst h
  obtain ⟨b, o, rfl, hc⟩ := hr.cell.at_ (by have := hl.out; omega)
  have c0 := hc 0 (by have := hl.out; omega)
  clear hc hr
  simp only [Nat.add_zero] at *
  by_cases x0 : nth l 0 = 2
  rotate_left
  · have y0 : (nth l 0 == 2) = false := by simp [x0]
    have x0 := Lib.hid x0
    go_enter Try.func46, Try.ntmps46
    go_wp2_with fail
    go_ret
    exact form_of (by have := hl.out; have := x0.out; simp [formedT]; omega) _
  have y0 : (nth l 0 == 2) = true := by simp [x0]
  have x0 := Lib.hid x0
  go_enter Try.func46, Try.ntmps46
  go_wp2_with fail
  go_ret
  exact form_of (by have := hl.out; simp [formedT, x0.out]; omega) _

set_option maxHeartbeats 800000 in
set_option maxRecDepth 100000 in
theorem formed_8 {B : Nat} (A : Option Addr) (n c : Nat) (l : List Int) (w : World) (hr : Rds B w .i64 A n c l) : Calls Try.prog 46 #[.int .i64 8, .slice A n c] w (FormPost (formedT 8 l) w) := by
  have hl := Lib.hid hr.len
  by_cases h : n = 2
  rotate_left
  · have h' : ((n : Int) == 2) = false := by simp; omega
    clear hr
    go_enter Try.func46, Try.ntmps46
    go_wp2_with fail
    go_ret
    exact form_of (by have := hl.out; simp [formedT]; omega) _
  subst h
  obtain ⟨b, o, rfl, hc⟩ := hr.cell.at_ (by have := hl.out; omega)
  have c0 := hc 0 (by have := hl.out; omega)
  have c1 := hc 1 (by have := hl.out; omega)
  clear hc hr
  simp only [Nat.add_zero] at *
  by_cases x0 : nth l 0 = 2
  rotate_left
  · have y0 : (nth l 0 == 2) = false := by simp [x0]
    have x0 := Lib.hid x0
    go_enter Try.func46, Try.ntmps46
    go_wp2_with fail
    go_ret
    exact form_of (by have := hl.out; have := x0.out; simp [formedT]; omega) _
  have y0 : (nth l 0 == 2) = true := by simp [x0]
  have x0 := Lib.hid x0
  by_cases x1 : nth l 1 = 7
  rotate_left
  · have y1 : (nth l 1 == 7) = false := by simp [x1]
    have x1 := Lib.hid x1
    go_enter Try.func46, Try.ntmps46
    go_wp2_with fail
    go_ret
    exact form_of (by have := hl.out; have := x1.out; simp [formedT]; omega) _
  have y1 : (nth l 1 == 7) = true := by simp [x1]
  have x1 := Lib.hid x1
  go_enter Try.func46, Try.ntmps46
  go_wp2_with fail
  go_ret
  exact form_of (by have := hl.out; simp [formedT, x0.out, x1.out]; omega) _

set_option maxHeartbeats 800000 in
set_option maxRecDepth 100000 in
theorem formed_9 {B : Nat} (A : Option Addr) (n c : Nat) (l : List Int) (w : World) (hr : Rds B w .i64 A n c l) : Calls Try.prog 46 #[.int .i64 9, .slice A n c] w (FormPost (formedT 9 l) w) := by
  have hl := Lib.hid hr.len
  by_cases h : n = 2
  rotate_left
  · have h' : ((n : Int) == 2) = false := by simp; omega
    clear hr
    go_enter Try.func46, Try.ntmps46
    go_wp2_with fail
    go_ret
    exact form_of (by have := hl.out; simp [formedT]; omega) _
  subst h
  obtain ⟨b, o, rfl, hc⟩ := hr.cell.at_ (by have := hl.out; omega)
  have c0 := hc 0 (by have := hl.out; omega)
  clear hc hr
  simp only [Nat.add_zero] at *
  by_cases x0 : nth l 0 = 2
  rotate_left
  · have y0 : (nth l 0 == 2) = false := by simp [x0]
    have x0 := Lib.hid x0
    go_enter Try.func46, Try.ntmps46
    go_wp2_with fail
    go_ret
    exact form_of (by have := hl.out; have := x0.out; simp [formedT]; omega) _
  have y0 : (nth l 0 == 2) = true := by simp [x0]
  have x0 := Lib.hid x0
  go_enter Try.func46, Try.ntmps46
  go_wp2_with fail
  go_ret
  exact form_of (by have := hl.out; simp [formedT, x0.out]; omega) _

set_option maxHeartbeats 800000 in
set_option maxRecDepth 100000 in
theorem formed_no (k : Int) (A : Option Addr) (n c : Nat) (l : List Int) (w : World) (hk : ¬(3 ≤ k ∧ k ≤ 10)) : Calls Try.prog 46 #[.int .i64 k, .slice A n c] w (FormPost (formedT k l) w) := by
  have k3 : (k == 3) = false := by simp; omega
  have k4 : (k == 4) = false := by simp; omega
  have k5 : (k == 5) = false := by simp; omega
  have k6 : (k == 6) = false := by simp; omega
  have k7 : (k == 7) = false := by simp; omega
  have k8 : (k == 8) = false := by simp; omega
  have k9 : (k == 9) = false := by simp; omega
  have k10 : (k == 10) = false := by simp; omega
  have hf : Hid (formedT k l = false) := by
    show _ = _
    unfold formedT
    rw [if_neg (by omega), if_neg (by omega), if_neg (by omega), if_neg (by omega), if_neg (by omega), if_neg (by omega), if_neg (by omega)]
  clear hk
  go_enter Try.func46, Try.ntmps46
  go_wp2_with fail
  go_ret
  exact form_of hf.out.symm _

theorem formed_any {B : Nat} (k : Int) (A : Option Addr) (n c : Nat) (l : List Int) (w : World) (hr : Rds B w .i64 A n c l) : Calls Try.prog 46 #[.int .i64 k, .slice A n c] w (FormPost (formedT k l) w) := by
  by_cases hk : 3 ≤ k ∧ k ≤ 10
  rotate_left
  · exact formed_no k A n c l w hk
  have : k = 3 ∨ k = 4 ∨ k = 5 ∨ k = 6 ∨ k = 7 ∨ k = 8 ∨ k = 9 ∨ k = 10 := by omega
  rcases this with rfl | rfl | rfl | rfl | rfl | rfl | rfl | rfl
  · exact formed_3 A n c l w hr
  · exact formed_4 A n c l w hr
  · exact formed_5 A n c l w hr
  · exact formed_6 A n c l w hr
  · exact formed_7 A n c l w hr
  · exact formed_8 A n c l w hr
  · exact formed_9 A n c l w hr
  · exact formed_10 A n c l w hr
end Go.Proofs.Ytbcicfgffjgpdaa

/- What Sort does with two terms. No condition. -/
set_option linter.unusedVariables false
set_option linter.unusedSimpArgs false
namespace Go.Proofs.Ytbcicfgffjgpdaa
open Go Go.RowKit Go.WideMaps

set_option maxHeartbeats 400000 in
theorem nan_any (x : Int) (w : World) : Calls Try.prog 77 #[.int .i64 x] w fun e w' => e = .returned (.bool false) ∧ w = w' := by
  have h : (x != x) = false := by simp
  go_enter Try.func77, Try.ntmps77
  go_wp2_with fail
  go_ret
  exact ⟨rfl, rfl⟩
set_option maxHeartbeats 400000 in
theorem less_any (x y : Int) (w : World) : Calls Try.prog 66 #[.int .i64 x, .int .i64 y] w fun e w' => e = .returned (.bool (decide (x < y))) ∧ w' = w := by
  go_enter Try.func66, Try.ntmps66
  go_wp2_with (go_at_call 77; refine (nan_any _ _).mono ?_; rintro e w1 ⟨rfl, rfl⟩)
  all_goals (go_ret; exact ⟨rfl, rfl⟩)

def SortPost (B g cap : Nat) (a b : Int) (w : World) (e : Ending) (w' : World) : Prop := e = .returned (.tuple #[]) ∧ OwnI w' B .i64 (.slice (some ⟨g, 0, none⟩) 2 cap) (sort2 a b) ∧ Below B w w'
theorem sort_keep {B g cap : Nat} {a b : Int} {w w' : World} (h : ¬ b < a) (ho : OwnI w' B .i64 (.slice (some ⟨g, 0, none⟩) 2 cap) [a, b]) (hb : Below B w w') : SortPost B g cap a b w (.returned (.tuple #[])) w' := by
  refine ⟨rfl, ?_, hb⟩
  unfold sort2
  rw [if_neg h]
  exact ho
theorem sort_swap {B g cap : Nat} {a b : Int} {w w' : World} (h : b < a) (ho : OwnI w' B .i64 (.slice (some ⟨g, 0, none⟩) 2 cap) [b, a]) (hb : Below B w w') : SortPost B g cap a b w (.returned (.tuple #[])) w' := by
  refine ⟨rfl, ?_, hb⟩
  unfold sort2
  rw [if_pos h]
  exact ho

theorem own_swap {B g cap : Nat} {a b : Int} {w : World} (ho : OwnI w B .i64 (.slice (some ⟨g, 0, none⟩) 2 cap) [a, b]) : OwnI ((w.setCell ⟨g, 1, none⟩ (.int .i64 a)).setCell ⟨g, 0, none⟩ (.int .i64 b)) B .i64 (.slice (some ⟨g, 0, none⟩) 2 cap) [b, a] := by
  obtain ⟨g', cap', e, _, _, _, _, _, hset⟩ := ho.form (by simp)
  cases e
  have h1 := hset 1 a (by simp)
  obtain ⟨g', cap', e, _, _, _, _, _, hset⟩ := h1.form (by simp)
  cases e
  exact hset 0 b (by simp)
set_option maxHeartbeats 1600000 in
set_option maxRecDepth 100000 in
theorem insertion_two {B : Nat} (g cap : Nat) (a b : Int) (w : World) (ho : OwnI w B .i64 (.slice (some ⟨g, 0, none⟩) 2 cap) [a, b]) :
    Calls Try.prog 60 #[.slice (some ⟨g, 0, none⟩) 2 cap, .int .i64 0, .int .i64 2] w (SortPost B g cap a b w) := by
  obtain ⟨g', cap', e, hB, hg, hcap, hc, hf, hset⟩ := ho.form (by simp)
  cases e
  have c0 : w.cell? ⟨g, 0, none⟩ = some (.int .i64 a) := hc 0 (by simp)
  have c1 : w.cell? ⟨g, 1, none⟩ = some (.int .i64 b) := hc 1 (by simp)
  have f0 := hf 0
  have f1 := hf 1
  have HO := Lib.hid ho
  have HS := Lib.hid hset
  clear ho hc hf hset
  by_cases hlt : b < a
  · go_enter Try.func60, Try.ntmps60
    go_wp2_with fail
    refine wp_loop_rounds 2 ?_
    rw [rounds_succ]
    go_wp2_with fail
    refine wp_loop_rounds 2 ?_
    rw [rounds_succ]
    go_wp2_with fail
    go_quiet ((go_at_call 66; exact Calls.quiet_of_same (less_any _ _ _)))
    go_wp2_with fail
    go_region
    go_wp2_with fail
    rw [rounds_succ]
    go_wp2_with fail
    go_quiet (fail)
    go_wp2_with fail
    rw [rounds_succ]
    go_wp2_with fail
    go_end0
    exact sort_swap hlt ((own_swap (HO.out.below (below_drewN (Below.refl _ _) _))).below (below_drewN (Below.refl _ _) _)) (below_drewN (((below_drewN (Below.refl _ _) _).setCell hB _).setCell hB _) _)
  · go_enter Try.func60, Try.ntmps60
    go_wp2_with fail
    refine wp_loop_rounds 2 ?_
    rw [rounds_succ]
    go_wp2_with fail
    refine wp_loop_rounds 2 ?_
    rw [rounds_succ]
    go_wp2_with fail
    go_quiet ((go_at_call 66; exact Calls.quiet_of_same (less_any _ _ _)))
    go_wp2_with fail
    rw [rounds_succ]
    go_wp2_with fail
    go_end0
    exact sort_keep (by omega) (HO.out.below (below_drewN (Below.refl _ _) _)) (below_drewN (Below.refl _ _) _)

set_option maxHeartbeats 1600000 in
set_option maxRecDepth 100000 in
theorem pdq_two {B : Nat} (g cap : Nat) (a b lim : Int) (w : World) (ho : OwnI w B .i64 (.slice (some ⟨g, 0, none⟩) 2 cap) [a, b]) :
    Calls Try.prog 54 #[.slice (some ⟨g, 0, none⟩) 2 cap, .int .i64 0, .int .i64 2, .int .i64 lim] w (SortPost B g cap a b w) := by
  have HO := Lib.hid ho
  clear ho
  go_enter Try.func54, Try.ntmps54
  go_wp2_with fail
  refine wp_loop_rounds 1 ?_
  rw [rounds_succ]
  go_wp2_with fail
  refine (insertion_two g cap a b w HO.out).mono ?_
  rintro e w1 ⟨rfl, h1, h2⟩
  have H1 := Lib.hid h1
  have H2 := Lib.hid h2
  clear h1 h2
  go_wp2_with fail
  go_returns
  exact ⟨rfl, H1.out, H2.out⟩
set_option maxHeartbeats 1600000 in
set_option maxRecDepth 100000 in
theorem len_two (w : World) : Calls Try.prog 55 #[.int .u64 2] w fun e w' => (∃ r, e = .returned (.int .i64 r)) ∧ w = w' := by
  go_enter Try.func55, Try.ntmps55
  go_wp2
  go_ret
  exact ⟨⟨_, rfl⟩, rfl⟩
set_option maxHeartbeats 1600000 in
set_option maxRecDepth 100000 in
theorem sort_two {B : Nat} (g cap : Nat) (a b : Int) (w : World) (ho : OwnI w B .i64 (.slice (some ⟨g, 0, none⟩) 2 cap) [a, b]) :
    Calls Try.prog 48 #[.slice (some ⟨g, 0, none⟩) 2 cap] w (SortPost B g cap a b w) := by
  have HO := Lib.hid ho
  clear ho
  go_enter Try.func48, Try.ntmps48
  go_wp2_with fail
  refine (len_two w).mono ?_
  rintro e w1 ⟨⟨r, rfl⟩, rfl⟩
  go_wp2_with fail
  refine (pdq_two g cap a b _ w HO.out).mono ?_
  rintro e w1 ⟨rfl, h1, h2⟩
  have H1 := Lib.hid h1
  have H2 := Lib.hid h2
  clear h1 h2
  go_wp2_with fail
  go_end0
  exact ⟨rfl, H1.out, H2.out⟩
end Go.Proofs.Ytbcicfgffjgpdaa

/- What Make does. No condition. -/
set_option linter.unusedVariables false
set_option linter.unusedSimpArgs false
namespace Go.Proofs.Ytbcicfgffjgpdaa
open Go Go.RowKit Go.WideMaps

theorem nth_map {f : Int → Int} {xs : List Int} {j : Nat} (h : j < xs.length) : nth (xs.map f) j = f (nth xs j) := by
  have h1 := nth_lt (xs := xs.map f) (j := j) (by simpa using h)
  rw [List.getElem?_map, nth_lt h] at h1
  simpa using h1.symm
theorem make_no1 {T : List Nd} {kind : Int} {parts : List Int} (h : (0 : Int) ∈ parts.map (kindT T)) : makeT T kind parts = (T, 0) := if_pos (.inl h)
theorem make_no2 {T : List Nd} {kind : Int} {parts : List Int} (h : formedT kind (parts.map (kindT T)) = false) : makeT T kind parts = (T, 0) := if_pos (.inr h)
theorem make_yes {T : List Nd} {kind : Int} {parts : List Int} (h : (0 : Int) ∉ parts.map (kindT T)) (h' : formedT kind (parts.map (kindT T)) = true) : makeT T kind parts = addT T ⟨kind, ByteArray.empty, ownT T kind parts⟩ := if_neg (by simp [h']; simpa using h)
theorem formed_kind {k : Int} {l : List Int} (h : formedT k l = true) : 3 ≤ k ∧ k ≤ 10 := by
  refine Classical.byContradiction fun hk => ?_
  unfold formedT at h
  rw [if_neg (by omega), if_neg (by omega), if_neg (by omega), if_neg (by omega), if_neg (by omega), if_neg (by omega), if_neg (by omega)] at h
  cases h
theorem formed8_len {l : List Int} (h : formedT 8 l = true) : l.length = 2 ∧ nth l 0 = 2 ∧ nth l 1 = 7 := by
  simpa [formedT] using h
theorem parts_range {T : List Nd} {parts : List Int} (h : (0 : Int) ∉ parts.map (kindT T)) : ∀ p ∈ parts, 1 ≤ p ∧ p ≤ T.length := fun p hp =>
  kindT_range fun e => h (List.mem_map.2 ⟨p, hp, e⟩)
/-- What stands behind a public one. -/
theorem public_of {T : List Nd} (hw : WfT T) {y : Int} (h : kindT T y = 7) : ∃ p, getT T y = some p ∧ p.parts.length = 1 ∧ kindT T (nth p.parts 0) = 2 ∧ 1 ≤ nth p.parts 0 ∧ nth p.parts 0 ≤ T.length := by
  obtain ⟨h0, h1⟩ := kindT_range (T := T) (h := y) (by omega)
  obtain ⟨p, hp⟩ := getT_some h0 h1
  have hg := hw.get hp
  rw [kindT_get hp] at h
  obtain ⟨k1, k2⟩ := hg.k7 h
  have := kindT_range (T := T) (h := nth p.parts 0) (by omega)
  exact ⟨p, hp, k1, k2, this.1, this.2⟩
theorem sort2_eq (a b : Int) : sort2 a b = [a, b] ∨ sort2 a b = [b, a] := by unfold sort2; split <;> simp
theorem good_make {T : List Nd} (hw : WfT T) {kind : Int} {parts : List Int} (h : (0 : Int) ∉ parts.map (kindT T)) (h' : formedT kind (parts.map (kindT T)) = true) : GoodN T.length T ⟨kind, ByteArray.empty, ownT T kind parts⟩ := by
  have hr := parts_range h
  have hk := formed_kind h'
  by_cases h8 : kind = 8
  · subst h8
    obtain ⟨l2, n0, n1⟩ := formed8_len h'
    have l2' : parts.length = 2 := by simpa using l2
    rw [nth_map (by omega)] at n0 n1
    obtain ⟨p, hp, p1, p2, p3, p4⟩ := public_of hw n1
    have ho : ownT T 8 parts = sort2 (nth parts 0) (nth p.parts 0) := by unfold ownT; rw [if_pos rfl, hp]
    have r0 := hr (nth parts 0) (nth_mem (by omega))
    rw [ho]
    refine ⟨by simp, (by show ByteArray.empty.size ≤ 2048; decide), ?_, ?_, fun k => by simp at k, fun k => by simp at k, fun _ => rfl, fun k => by simp at k, fun k => by simp at k, fun k => by simp at k, fun k => by simp at k, fun _ => ?_, fun k => by simp at k⟩
    · rcases sort2_eq (nth parts 0) (nth p.parts 0) with e | e <;> simp [e]
    · intro q hq
      rcases sort2_eq (nth parts 0) (nth p.parts 0) with e | e <;> (simp only [e, List.mem_cons, List.not_mem_nil, or_false] at hq; rcases hq with rfl | rfl <;> omega)
    · simp only
      unfold sort2
      split
      · exact ⟨rfl, p2, n0, by simp [nth] at *; omega⟩
      · exact ⟨rfl, n0, p2, by simp [nth] at *; omega⟩
  · have ho : ownT T kind parts = parts := if_neg h8
    rw [ho]
    have l : (parts.map (kindT T)).length = parts.length := by simp
    unfold formedT at h'
    rw [l] at h'
    refine ⟨⟨by simp; omega, by simp; omega⟩, (by show ByteArray.empty.size ≤ 2048; decide), ?_, hr, fun k => by simp at k; omega, fun k => by simp at k; omega, fun _ => rfl, fun k => ?_, fun k => ?_, fun k => ?_, fun k => ?_, fun k => absurd k h8, fun k => ?_⟩
    · show parts.length ≤ 16
      split at h'
      · simpa using h'
      · split at h'
        · simp at h'; omega
        · split at h'
          · simp at h'; omega
          · split at h'
            · simp at h'; omega
            · split at h'
              · simp at h'; omega
              · split at h'
                · simp at h'; omega
                · cases h'
    · simp only at k; subst k; simpa using h'
    · simp only at k; subst k; simpa using h'
    · simp only at k
      have h'' : parts.length = 3 ∧ nth (parts.map (kindT T)) 1 = 1 := by rcases k with rfl | rfl <;> simpa using h'
      exact ⟨h''.1, (nth_map (f := kindT T) (xs := parts) (by omega)).symm.trans h''.2⟩
    · simp only at k; subst k
      have h'' : parts.length = 1 ∧ nth (parts.map (kindT T)) 0 = 2 := by simpa using h'
      exact ⟨h''.1, (nth_map (f := kindT T) (xs := parts) (by omega)).symm.trans h''.2⟩
    · simp only at k; subst k
      have h'' : parts.length = 2 ∧ nth (parts.map (kindT T)) 0 = 2 := by simpa using h'
      exact ⟨h''.1, (nth_map (f := kindT T) (xs := parts) (by omega)).symm.trans h''.2⟩

theorem make_done {B tb : Nat} {T : List Nd} {kind : Int} {parts own : List Int} {w w2 : World} {e : Ending} {w' : World} (h : (0 : Int) ∉ parts.map (kindT T)) (h' : formedT kind (parts.map (kindT T)) = true) (ho : ownT T kind parts = own) (hf : Below w.heap.size w w2) (ha : AddPost B tb T ⟨kind, ByteArray.empty, own⟩ w2 e w') : TabPost B tb w (makeT T kind parts) e w' := by
  subst ho
  unfold TabPost
  rw [make_yes h h']
  exact ⟨ha.1, ha.2.1, (Frm.of_below hf).trans ha.2.2⟩
theorem own_len {T : List Nd} {kind : Int} {parts : List Int} (h8 : kind ≠ 8) : ownT T kind parts = parts := if_neg h8

set_option maxHeartbeats 3200000 in
set_option maxRecDepth 100000 in
theorem make_any {B B' tb : Nat} {T : List Nd} (kind : Int) (A : Option Addr) (n c : Nat) (parts : List Int) (w : World) (ht : IsTab B w tb T) (hr : Rds B' w .i64 A n c parts) (hx : I64 parts) (hn : n ≤ 1000000) :
    Calls Try.prog 28 #[.pointer (some ⟨tb, 0, none⟩), .int .i64 kind, .slice A n c] w (TabPost B tb w (makeT T kind parts)) := by
  have HT := Lib.hid ht; clear ht
  have HR := Lib.hid hr; clear hr
  have HX := Lib.hid hx; clear hx
  have hl := Lib.hid HR.out.len
  go_enter Try.func28, Try.ntmps28
  go_wp2_with fail
  refine (kinds_any A n c parts w HT.out HR.out HX.out hn).mono ?_
  rintro e w1 ⟨v, rfl, ho1, hb1⟩
  obtain ⟨A1, c1, rfl⟩ := ho1.slice
  have HO1 := Lib.hid ho1
  have HB1 := Lib.hid hb1
  clear ho1 hb1
  have hkl : (parts.map (kindT T)).length = n := by rw [List.length_map]; exact hl.out
  rw [hkl]
  have HKL := Lib.hid hkl
  clear hkl
  have R1 : Hid (Rds w1.heap.size w1 .i64 A1 n c1 (parts.map (kindT T))) := by
    have := HO1.out.rds (B' := w1.heap.size)
    rw [HKL.out] at this
    exact this
  go_wp2_with fail
  refine (contains_zero A1 n c1 _ w1 R1.out).mono ?_
  rintro e w2 ⟨rfl, rfl⟩
  by_cases hz : (0 : Int) ∈ parts.map (kindT T)
  · rw [decide_eq_true hz]
    have HZ := Lib.hid hz
    clear hz
    go_wp2_with fail
    go_ret
    unfold TabPost
    rw [make_no1 HZ.out]
    exact ⟨rfl, HT.out.below HB1.out, .of_below HB1.out⟩
  rw [decide_eq_false hz]
  have HZ := Lib.hid hz
  clear hz
  go_wp2_with fail
  refine (formed_any kind A1 n c1 _ w1 R1.out).mono ?_
  rintro e w2 ⟨rfl, rfl⟩
  cases hq : formedT kind (parts.map (kindT T)) with
  | false =>
    have HQ := Lib.hid hq
    clear hq
    go_wp2_with fail
    go_ret
    unfold TabPost
    rw [make_no2 HQ.out]
    exact ⟨rfl, HT.out.below HB1.out, .of_below HB1.out⟩
  | true =>
    have HQ := Lib.hid hq
    clear hq
    go_wp2_with fail
    refine (clone_any A n c parts w1 (HR.out.below HB1.out) hn).mono ?_
    rintro e w2 ⟨v, rfl, ho2, hb2⟩
    obtain ⟨A2, c2, rfl⟩ := ho2.slice
    have HO2 := Lib.hid ho2
    have HB2 := Lib.hid (below_step HB1.out hb2)
    have HB2' := Lib.hid hb2
    clear ho2 hb2
    rw [hl.out]
    by_cases h8 : kind = 8
    · subst h8
      obtain ⟨l2, k0, k1⟩ := formed8_len HQ.out
      have hn2 : parts.length = 2 := by simpa using l2
      obtain rfl : n = 2 := by have := hl.out; omega
      rw [nth_map (by omega)] at k0 k1
      obtain ⟨p, hp, p1, p2, p3, p4⟩ := public_of HT.out.1 k1
      obtain ⟨i, hi⟩ : ∃ i : Nat, nth parts 1 = (i : Int) + 1 := by
        have := getT_range hp
        exact ⟨(nth parts 1 - 1).toNat, by omega⟩
      have hiT : i < T.length := by have := getT_range hp; omega
      have hpi : T[i]? = some p := by rw [hi, getT_nat] at hp; exact hp
      have hown : Hid (ownT T 8 parts = sort2 (nth parts 0) (nth p.parts 0)) := by show _ = _; unfold ownT; rw [if_pos rfl, hp]
      have hpar : parts = [nth parts 0, (i : Int) + 1] := by
        rw [← hi]
        match parts, hn2 with
        | [a, b], _ => rfl
      obtain ⟨hw, hB, v, mb, es, clock, cs, g1, hmb, g3, hm, hon, hcs, -⟩ := HT.out.below HB2.out
      obtain ⟨AT, cAT, rfl⟩ := owned_slice hon
      have c0 : w2.cell? ⟨tb, 0, none⟩ = some (.slice AT T.length cAT) := by rw [cell_of_row w2 tb 0 _ _ _ g1]; rfl
      obtain ⟨gT, capT, e1, hfrm⟩ := hon.form (by omega)
      cases e1
      obtain ⟨AP, cP, hp1, hp2⟩ := hcs.parts i p hpi
      have k2 : w2.cell? ⟨gT, i * 3 + 2, none⟩ = some (.slice AP p.parts.length cP) := by rw [hon.cellAt _ (by omega)]; exact hp1
      rw [p1] at k2
      obtain ⟨bP, oP, rfl, hcP⟩ := RdI.at_ hp2.cell (by omega)
      have k3 := hcP 0 (by omega)
      obtain ⟨bA, oA, rfl, hcA⟩ := RdI.at_ (HR.out.below HB2.out).cell (by omega)
      have k4 := hcA 1 (by omega)
      rw [hi] at k4
      obtain ⟨g, cap, e2, hgB, hgl, hcap, hgc, hgf, hgs⟩ := HO2.out.form (by omega)
      rw [hl.out] at e2
      cases e2
      have q0 := hgc 0 (by omega)
      have q1 := hgc 1 (by omega)
      have z1 := hgf 1
      have HS := Lib.hid (hgs 1 (nth p.parts 0) (by omega))
      have hl2 := Lib.hid hpar
      have hTl := hw.len
      rw [hi] at q1
      clear hw g1 g3 hm hon hcs hfrm hp1 hp2 hcP hcA hgc hgf hgs k0 k1 hp hpi hpar p1 p2 p3 p4 l2 hn2 hmb hB
      have hi0 : (0 : Int) ≤ (i : Int) := by omega
      have hiT' : (i : Int) < (T.length : Int) := by omega
      generalize nth p.parts 0 = z at *
      go_wp2_with fail
      refine wp_still_tail 15 (by kernel_rfl) (by kernel_rfl) ?_
      intro w3 hw3
      have c0' : w3.cell? ⟨tb, 0, none⟩ = some (.slice (some ⟨gT, 0, none⟩) T.length cAT) := by rw [hw3]; exact c0
      have k2' : w3.cell? ⟨gT, i * 3 + 2, none⟩ = some (.slice (some ⟨bP, oP, none⟩) 1 cP) := by rw [hw3]; exact k2
      have k3' : w3.cell? ⟨bP, oP, none⟩ = some (.int .i64 z) := by rw [hw3]; exact k3
      have k4' : w3.cell? ⟨bA, oA + 1, none⟩ = some (.int .i64 ((i : Int) + 1)) := by rw [hw3]; exact k4
      have q1' : w3.cell? ⟨g, 1, none⟩ = some (.int .i64 ((i : Int) + 1)) := by rw [hw3]; exact q1
      have z1' : w3.frozen? ⟨g, 1, none⟩ = false := by rw [hw3]; exact z1
      have HS' : Hid (OwnI (w3.setCell ⟨g, 1, none⟩ (.int .i64 z)) w1.heap.size .i64 (.slice (some ⟨g, 0, none⟩) 2 c2) [nth parts 0, z]) := by
        have := HS.out
        rw [hl.out, hl2.out] at this
        rw [hw3]
        exact this
      have HB3 : Hid (Below w.heap.size w (w3.setCell ⟨g, 1, none⟩ (.int .i64 z))) := by
        rw [hw3]
        exact HB2.out.drew.setCell (by have := HB1.out.size; simp; omega) _
      clear c0 k2 k3 k4 q1 z1 q0 HS hw3
      have hwi : IntKind.i64.wrap (i : Int) = i := IntWalk.i64_in _ (by omega)
      simp only [List.take_succ_cons, List.take_zero, List.drop_succ_cons, List.drop_zero]
      repeat still_step
      refine wpStill_nil ?_
      go_wp2_with fail
      obtain ⟨w4, hw4⟩ : ∃ w4, w4 = w3.setCell ⟨g, 1, none⟩ (.int .i64 z) := ⟨_, rfl⟩
      rw [← hw4] at HS' HB3 ⊢
      clear c0' k2' k3' k4' q1' z1' hw4
      refine (sort_two g c2 _ _ w4 HS'.out).mono ?_
      rintro e w5 ⟨rfl, ho5, hb5⟩
      have HO5 := Lib.hid ho5
      have HB5 := Lib.hid (HB3.out.trans (hb5.mono HB1.out.size))
      have hs5 : w1.heap.size ≤ w5.heap.size := by have := hb5.size; have := HO5.out.lt g rfl; omega
      clear ho5 hb5
      go_wp2_with fail
      refine (add_any 8 ByteArray.empty (some ⟨g, 0, none⟩) 2 c2 (sort2 (nth parts 0) z) w5 (HT.out.below HB5.out) (by rw [← hown.out]; exact good_make HT.out.1 HZ.out HQ.out) HO5.out.rds).mono ?_
      rintro e w6 h3
      have h3' := Lib.hid h3
      obtain ⟨rfl, -, -⟩ := h3
      go_wp2_with fail
      go_ret
      exact make_done HZ.out HQ.out hown.out HB5.out h3'.out
    · have hk8 : (kind == 8) = false := by simp [h8]
      have HE := Lib.hid (own_len (T := T) (parts := parts) h8)
      clear h8
      go_wp2_with fail
      refine (add_any kind ByteArray.empty A2 n c2 parts w2 (HT.out.below HB2.out) (by rw [← HE.out]; exact good_make HT.out.1 HZ.out HQ.out) (by rw [← hl.out]; exact HO2.out.rds)).mono ?_
      rintro e w3 h3
      have h3' := Lib.hid h3
      obtain ⟨rfl, -, -⟩ := h3
      go_wp2_with fail
      go_ret
      exact make_done HZ.out HQ.out HE.out HB2.out h3'.out
end Go.Proofs.Ytbcicfgffjgpdaa

/- What shibbolethlaw02.awake does. No condition. -/
set_option linter.unusedVariables false
set_option linter.unusedSimpArgs false
namespace Go.Proofs.Ytbcicfgffjgpdaa
open Go Go.RowKit Go.WideMaps

def nS : Nd := ⟨2, ByteArray.empty, []⟩
def nP (x : Int) : Nd := ⟨7, ByteArray.empty, [x]⟩
def nK (x y : Int) : Nd := ⟨8, ByteArray.empty, [x, y]⟩
theorem aw1 : secretT [] = ([nS], 1) := by decide
theorem aw2 : secretT [nS] = ([nS, nS], 2) := by decide
theorem aw3 : makeT [nS, nS] 7 [1] = ([nS, nS, nP 1], 3) := by decide
theorem aw4 : makeT [nS, nS, nP 1] 7 [2] = ([nS, nS, nP 1, nP 2], 4) := by decide
theorem aw5 : makeT [nS, nS, nP 1, nP 2] 8 [1, 4] = ([nS, nS, nP 1, nP 2, nK 1 2], 5) := by decide
theorem aw6 : makeT [nS, nS, nP 1, nP 2, nK 1 2] 8 [2, 3] = ([nS, nS, nP 1, nP 2, nK 1 2], 5) := by decide

/-- What is kept of a call that turns the table. -/
theorem TabPost.intro {B tb : Nat} {w w' : World} {T : List Nd} {h : Int} {r : List Nd × Int} {e : Ending} (hr : r = (T, h)) (p : TabPost B tb w r e w') : e = .returned (.int .i64 h) ∧ IsTab B w' tb T ∧ Frm tabO B w w' := by
  subst hr; exact p
theorem tabPost_after {B tb : Nat} {w w1 : World} {r : List Nd × Int} {e : Ending} {w' : World} (hb : Below w.heap.size w w1) (p : TabPost B tb w1 r e w') : TabPost B tb w r e w' := ⟨p.1, p.2.1, (Frm.of_below hb).trans p.2.2⟩
theorem make_lit {B tb g t : Nat} {T : List Nd} (kind : Int) (xs : List Int) (w : World) (ht : IsTab B w tb T) (hg : w.heap.size = g) (hx : I64 xs) (hn : xs.length ≤ 1000000) (cs : Array Value) (hc : cs = (xs.map (Value.int .i64)).toArray) (hs : spT t = false) (n : Nat) (hl : xs.length = n) :
    Calls Try.prog 28 #[.pointer (some ⟨tb, 0, none⟩), .int .i64 kind, .slice (some ⟨g, 0, none⟩) n n] (w.alloc (.cells cs t)) (TabPost B tb w (makeT T kind xs)) := by
  subst hg hc hl
  exact (make_any kind _ _ _ xs _ (ht.below (below_new _)) ((OwnI.fresh (B := 0) (Nat.zero_le _) hs (by omega)).rds (B' := 0)) hx hn).mono fun e w' p => tabPost_after (below_new _) p

def AwakePost (w : World) (e : Ending) (w' : World) : Prop := e = .returned (.bool true) ∧ Below w.heap.size w w'
end Go.Proofs.Ytbcicfgffjgpdaa

/- What Derive, Seal and Open do. No condition. -/
set_option linter.unusedVariables false
set_option linter.unusedSimpArgs false
namespace Go.Proofs.Ytbcicfgffjgpdaa
open Go Go.RowKit Go.WideMaps

def numsL (s : ByteArray) : List Int := s.data.toList.map fun x => (x.toNat : Int)
theorem numsL_length (s : ByteArray) : (numsL s).length = s.size := by simp [numsL]
theorem str_numsL (s : ByteArray) : strOfNums (numsL s) = s := by
  cases s with | mk d =>
  simp [strOfNums, numsL, Function.comp_def]
theorem nth_numsL (s : ByteArray) {j : Nat} (h : j < s.size) : nth (numsL s) j = ((s.data.toList.getD j 0).toNat : Int) := by
  have h1 := nth_lt (xs := numsL s) (j := j) (by rw [numsL_length]; exact h)
  have h2 : j < s.data.toList.length := by simpa using h
  unfold numsL at h1
  rw [List.getElem?_map, List.getElem?_eq_getElem h2] at h1
  simp only [Option.map_some, Option.some.injEq] at h1
  rw [show numsL s = s.data.toList.map fun x => (x.toNat : Int) from rfl, ← h1]; simp [List.getD, List.getElem?_eq_getElem h2]
theorem run_str_bytes (w : World) (s : ByteArray) (hs : s.size ≤ 1000000) : ∃ c w', (convert 9 27 (.string s)).run Try.prog w = .ok (.slice (some ⟨w.heap.size, 0, none⟩) s.size c) w' ∧
    (∀ B, Rds B w' .u8 (some ⟨w.heap.size, 0, none⟩) s.size c (numsL s)) ∧ Below w.heap.size w w' := by
  refine ⟨_, _, Lib.run_convert_string_bytes w 9 27 5 s Try.underlying9 Try.underlying27 Try.underlying5, fun B => ⟨numsL_length s, grownCap_ge _ _ _ _, ?_, fun j hj => ?_, fun _ a e => ?_⟩, ⟨rfl, rfl, rfl, ?_, fun k hk => ?_⟩⟩
  · have := grownCap_le_maxLen w s.size 0 5 (by simp only [maxLen]; omega)
    simpa only [maxLen] using this
  · rw [numsL_length] at hj
    exact ⟨_, rfl, by rw [addr_add, Nat.zero_add, nth_numsL s hj]; exact Lib.bytesWorld_cell w _ s j hj⟩
  · cases e
    exact ⟨by rw [Lib.bytesWorld_size]; simp, .inr ⟨_, _, _, Lib.bytesWorld_at_new w _ s, by decide⟩⟩
  · rw [Lib.bytesWorld_size]; omega
  · exact Lib.bytesWorld_at_old w _ s k hk
theorem wp_str_bytes {w : World} {ops : Array Oper} {rest : List Oper} {o : Oper} {a : Act} {Q : Exit → Act → World → Prop} (hgd : o.guard = none) (x : Operand) (ho : o.op = .convert 9 27 x) (s : ByteArray) (hx : a.eval x = .string s) (hs : s.size ≤ 1000000)
    (h : ∀ c w', (∀ B, Rds B w' .u8 (some ⟨w.heap.size, 0, none⟩) s.size c (numsL s)) → Below w.heap.size w w' → wpList Try.prog ops Q rest (a.put o.dst (.slice (some ⟨w.heap.size, 0, none⟩) s.size c)) w') : wpList Try.prog ops Q (o :: rest) a w := by
  obtain ⟨c, w', e, h1, h2⟩ := run_str_bytes w s hs
  refine wp_op hgd (v := .slice (some ⟨w.heap.size, 0, none⟩) s.size c) ?_ (h c w' h1 h2)
  unfold execOp
  simp only [ho, hx, Sem.run_bind, e, Result.andThen_ok, Sem.run_pure]

theorem textT_range {T : List Nd} {b : ByteArray} (h : T.length ≤ 65536) : 0 ≤ (textT T b).2 ∧ (textT T b).2 ≤ 65536 := by
  unfold textT
  split
  · unfold addT
    split
    · rename_i i hi
      simp only [show ¬((1 : Int) = 2) by decide, if_false] at hi
      have := lookT_some hi
      have := (List.getElem?_eq_some_iff.1 this).1
      simp; omega
    · split <;> simp; omega
  · simp
def ctxT (T : List Nd) (c : Int) : List Nd × Int := if c = 0 then textT T ByteArray.empty else (T, c)
def deriveT (T : List Nd) (s : Int) (l : ByteArray) (c : Int) : List Nd × Int := makeT (textT (ctxT T c).1 l).1 6 [s, (textT (ctxT T c).1 l).2, (ctxT T c).2]
def sealT (T : List Nd) (k : Int) (hd : ByteArray) (c : Int) : List Nd × Int := makeT (textT T hd).1 10 [k, (textT T hd).2, c]
def BigI (x : Int) : Prop := -9223372036854775808 ≤ x ∧ x ≤ 9223372036854775807

theorem tabPost_next {B tb : Nat} {w w1 : World} {r : List Nd × Int} {e : Ending} {w' : World} (hf : Frm tabO B w w1) (p : TabPost B tb w1 r e w') : TabPost B tb w r e w' := ⟨p.1, p.2.1, hf.trans p.2.2⟩
set_option maxHeartbeats 1600000 in
set_option maxRecDepth 100000 in
theorem derive_any {B tb : Nat} {T : List Nd} (s : Int) (l : ByteArray) (c : Int) (w : World) (ht : IsTab B w tb T) (hs : BigI s) (hc : BigI c) (hl : l.size ≤ 1000000) :
    Calls Try.prog 52 #[.pointer (some ⟨tb, 0, none⟩), .int .i64 s, .string l, .int .i64 c] w (TabPost B tb w (deriveT T s l c)) := by
  have HT := Lib.hid ht
  clear ht
  obtain ⟨s0, s1⟩ := hs
  obtain ⟨c0, c1⟩ := hc
  go_enter Try.func52, Try.ntmps52
  have fin : Hid (∀ w1 T1 c', IsTab B w1 tb T1 → Frm tabO B w w1 → BigI c' → ctxT T c = (T1, c') → ∀ w2 w3 e, Below w1.heap.size w1 w2 → TabPost B tb w2 (textT T1 l) e w3 → True) := fun _ _ _ _ _ _ _ _ _ _ _ _ => trivial
  clear fin
  by_cases hz : c = 0
  · subst hz
    go_wp2_with fail
    refine (text_any none 0 0 [] w HT.out (Rds.nil 0 _ _)).mono ?_
    rintro e w1 p1
    obtain ⟨⟨T1, c'⟩, he1⟩ : ∃ r, textT T ByteArray.empty = r := ⟨_, rfl⟩
    obtain ⟨rfl, ht1, hf1⟩ := p1.intro (show textT T (strOfNums []) = (T1, c') from he1)
    have hr1 := textT_range (b := ByteArray.empty) HT.out.1.len
    rw [he1] at hr1
    simp only at hr1
    have HT1 := Lib.hid ht1
    have HF1 := Lib.hid hf1
    have HE1 : Hid (ctxT T 0 = (T1, c')) := he1
    clear p1 he1 ht1 hf1
    go_wp2_with ((with_reducible show wpList _ _ _ (Oper.mk _ (Op.convert 9 27 _) _ _ _ _ :: _) _ _); refine wp_str_bytes rfl _ rfl l rfl hl ?_; intro cc w2 hr2 hb2)
    have HT2 := Lib.hid (HT1.out.below hb2)
    have HF2 := Lib.hid (HF1.out.trans (.of_below hb2))
    have hr2' := Lib.hid (hr2 0)
    clear hr2 hb2 HT1 HF1
    refine (text_any _ _ _ _ w2 HT2.out hr2'.out).mono ?_
    rintro e w3 p3
    rw [str_numsL] at p3
    obtain ⟨⟨T3, h3⟩, he3⟩ : ∃ r, textT T1 l = r := ⟨_, rfl⟩
    obtain ⟨rfl, ht3, hf3⟩ := p3.intro he3
    have hr3 := textT_range (b := l) HT2.out.1.len
    rw [he3] at hr3
    simp only at hr3
    have HT3 := Lib.hid ht3
    have HF3 := Lib.hid (HF2.out.trans hf3)
    have HE3 := Lib.hid he3
    clear p3 he3 ht3 hf3 HT2 HF2 hr2'
    go_wp2_with fail
    refine (make_lit 6 [s, h3, c'] w3 HT3.out rfl (by simp [I64]; omega) (by simp) _ rfl ?_ 3 rfl).mono ?_
    · decide
    rintro e w4 p4
    have P4 := Lib.hid (tabPost_next HF3.out p4)
    obtain ⟨rfl, -, -⟩ := p4
    go_wp2_with fail
    go_ret
    have := P4.out
    unfold deriveT
    rw [HE1.out, HE3.out]
    exact this
  · have hz' : (c == 0) = false := by simp [hz]
    have HE1 : Hid (ctxT T c = (T, c)) := if_neg hz
    have HF0 := Lib.hid (Frm.refl tabO B w)
    clear hz
    go_wp2_with ((with_reducible show wpList _ _ _ (Oper.mk _ (Op.convert 9 27 _) _ _ _ _ :: _) _ _); refine wp_str_bytes rfl _ rfl l rfl hl ?_; intro cc w2 hr2 hb2)
    have HT2 := Lib.hid (HT.out.below hb2)
    have HF2 := Lib.hid (HF0.out.trans (.of_below hb2))
    have hr2' := Lib.hid (hr2 0)
    clear hr2 hb2 HT HF0
    refine (text_any _ _ _ _ w2 HT2.out hr2'.out).mono ?_
    rintro e w3 p3
    rw [str_numsL] at p3
    obtain ⟨⟨T3, h3⟩, he3⟩ : ∃ r, textT T l = r := ⟨_, rfl⟩
    obtain ⟨rfl, ht3, hf3⟩ := p3.intro he3
    have hr3 := textT_range (b := l) HT2.out.1.len
    rw [he3] at hr3
    simp only at hr3
    have HT3 := Lib.hid ht3
    have HF3 := Lib.hid (HF2.out.trans hf3)
    have HE3 := Lib.hid he3
    clear p3 he3 ht3 hf3 HT2 HF2 hr2'
    go_wp2_with fail
    refine (make_lit 6 [s, h3, c] w3 HT3.out rfl (by simp [I64]; omega) (by simp) _ rfl ?_ 3 rfl).mono ?_
    · decide
    rintro e w4 p4
    have P4 := Lib.hid (tabPost_next HF3.out p4)
    obtain ⟨rfl, -, -⟩ := p4
    go_wp2_with fail
    go_ret
    have := P4.out
    unfold deriveT
    rw [HE1.out, HE3.out]
    exact this
end Go.Proofs.Ytbcicfgffjgpdaa

/- What the functions of layer 4 without a table return: Number, Numbered, Wrap, Unwrap, and the references'. No condition. -/
set_option linter.unusedVariables false
set_option linter.unusedSimpArgs false
namespace Go.Proofs.Ytbcicfgffjgpdaa
open Go Go.RowKit

set_option maxHeartbeats 400000 in
theorem number_no (h : Int) (w : World) (h0 : ¬(1 ≤ h ∧ h ≤ 65536)) : Calls Try.prog 57 #[.int .i64 h] w fun e w' => e = .returned (.slice none 0 0) ∧ w = w' := by
  by_cases h1 : h < 1
  · go_enter Try.func57, Try.ntmps57
    go_wp2
    go_ret
    exact ⟨rfl, rfl⟩
  · have h2 : 65536 < h := by omega
    go_enter Try.func57, Try.ntmps57
    go_wp2
    go_ret
    exact ⟨rfl, rfl⟩

def NumPost (h : Int) (w : World) (e : Ending) (w' : World) : Prop := ∃ v, e = .returned v ∧ v = .slice (some ⟨w.heap.size, 0, none⟩) 4 4 ∧ w' = w.alloc (.cells ((numB h).map (Value.int .u8)).toArray 112)

set_option maxHeartbeats 800000 in
theorem number_yes (h : Int) (w : World) (h0 : 1 ≤ h) (h1 : h ≤ 65536) : Calls Try.prog 57 #[.int .i64 h] w (NumPost h w) := by
  have H := Lib.hid (numB_yes h0 h1)
  have H2 := Lib.hid (show h / 16777216 = 0 by omega)
  go_enter Try.func57, Try.ntmps57
  go_wp2
  refine wp_loop_rounds 5 ?_
  rw [rounds_succ]
  go_wp2
  rw [rounds_succ]
  go_wp2
  rw [rounds_succ]
  go_wp2
  rw [rounds_succ]
  go_wp2
  rw [rounds_succ]
  go_wp2
  go_ret
  exact ⟨_, rfl, rfl, by rw [H.out, H2.out]; rfl⟩

theorem number_any (h : Int) (w : World) : Calls Try.prog 57 #[.int .i64 h] w fun e w' => ∃ v, e = .returned v ∧ OwnI w' w.heap.size .u8 v (numB h) ∧ Below w.heap.size w w' := by
  by_cases hh : 1 ≤ h ∧ h ≤ 65536
  · refine (number_yes h w hh.1 hh.2).mono ?_
    rintro e w' ⟨v, rfl, rfl, rfl⟩
    have := OwnI.fresh (w := w) (B := w.heap.size) (k := .u8) (xs := numB h) (t := 112) (Nat.le_refl _) (by decide) (by rw [numB_yes hh.1 hh.2]; simp)
    rw [numB_yes hh.1 hh.2] at this ⊢
    exact ⟨_, rfl, this, below_new _⟩
  · refine (number_no h w hh).mono ?_
    rintro e w' ⟨rfl, rfl⟩
    rw [numB_no hh]
    exact ⟨_, rfl, OwnI.nil _ _ _, Below.refl _ _⟩



theorem size_u8 : (Try.prog.info? 5).map (·.size) = some 1 := by kernel_rfl
def NumdPost (xs : List Int) (w : World) (e : Ending) (w' : World) : Prop := e = .returned (.tuple #[.int .i64 (numOf xs), .bool (numOf xs != 0)]) ∧ Below w.heap.size w w'
theorem numd_of {r : Int} {xs : List Int} {b : Bool} (h : r = numOf xs) (hb : b = (r != 0)) {w w' : World} (hw : Below w.heap.size w w') : NumdPost xs w (.returned (.tuple #[.int .i64 r, .bool b])) w' := by
  subst h; subst hb; exact ⟨rfl, hw⟩
theorem numB_len (h : Int) : (numB h).length = if 1 ≤ h ∧ h ≤ 65536 then 4 else 0 := by unfold numB; split <;> rfl

theorem list_four {xs : List Int} (h : xs.length = 4) : xs = [nth xs 0, nth xs 1, nth xs 2, nth xs 3] := by
  match xs, h with
  | [a, b, c, d], _ => rfl



def IdxPost (xs : List Int) (w : World) (e : Ending) (w' : World) : Prop := ∃ r : Int, e = .returned (.int .i64 r) ∧ -1 ≤ r ∧ (r = -1 ↔ ∀ x ∈ xs, x = 0) ∧ w = w'
theorem all_zero {xs : List Int} {n : Nat} (hn : xs.length = n) (h : ∀ j, j < n → nth xs j = 0) : ∀ x ∈ xs, x = 0 := by
  intro x hx
  obtain ⟨j, hj⟩ := List.mem_iff_getElem?.1 hx
  have hl := (List.getElem?_eq_some_iff.1 hj).1
  rw [nth_lt hl] at hj
  have := h j (by omega)
  simp_all

def ContPost (xs : List Int) (w : World) (e : Ending) (w' : World) : Prop := e = .returned (.bool (decide (¬ ∀ x ∈ xs, x = 0))) ∧ w = w'
end Go.Proofs.Ytbcicfgffjgpdaa

/- What Unwrap, Wrap and the references' functions of layer 4 return. No condition. -/
set_option linter.unusedVariables false
set_option linter.unusedSimpArgs false
namespace Go.Proofs.Ytbcicfgffjgpdaa
open Go Go.RowKit

def UnwPost (xs : List Int) (w : World) (e : Ending) (w' : World) : Prop := e = .returned (.tuple #[.int .i64 (unwrap xs).1, .int .i64 (unwrap xs).2.1, .bool (unwrap xs).2.2]) ∧ Below w.heap.size w w'
theorem unw_no {xs : List Int} {w w' : World} (h : ¬(16 ≤ xs.length ∧ xs.length ≤ 1216 ∧ numOf (xs.take 4) ≠ 0 ∧ (∀ x ∈ xs.drop 4, x = 0))) (hw : Below w.heap.size w w') : UnwPost xs w (.returned (.tuple #[.int .i64 0, .int .i64 0, .bool false])) w' := by
  unfold UnwPost unwrap
  rw [if_neg h]
  exact ⟨rfl, hw⟩

def SamePost04 (xs ys : List Int) (w : World) (e : Ending) (w' : World) : Prop := e = .returned (.bool (decide (xs = ys))) ∧ Below w.heap.size w w'

end Go.Proofs.Ytbcicfgffjgpdaa

/- What the references' functions of layer 4 return, and Wrap. No condition. -/
set_option linter.unusedVariables false
set_option linter.unusedSimpArgs false
namespace Go.Proofs.Ytbcicfgffjgpdaa
open Go Go.RowKit

def RNumdPost (xs : List Int) (w : World) (e : Ending) (w' : World) : Prop := e = .returned (.int .i64 (numOf xs)) ∧ Below w.heap.size w w'
theorem rnumd_of {r : Int} {xs : List Int} (h : r = numOf xs) {w w' : World} (hw : Below w.heap.size w w') : RNumdPost xs w (.returned (.int .i64 r)) w' := by
  subst h; exact ⟨rfl, hw⟩

def RUnwPost (xs : List Int) (w : World) (e : Ending) (w' : World) : Prop := e = .returned (.tuple #[.int .i64 (unwrap xs).1, .int .i64 (unwrap xs).2.1]) ∧ Below w.heap.size w w'
theorem runw_no {xs : List Int} {w w' : World} (h : ¬(16 ≤ xs.length ∧ xs.length ≤ 1216 ∧ numOf (xs.take 4) ≠ 0 ∧ (∀ x ∈ xs.drop 4, x = 0))) (hw : Below w.heap.size w w') : RUnwPost xs w (.returned (.tuple #[.int .i64 0, .int .i64 0])) w' := by
  unfold RUnwPost unwrap
  rw [if_neg h]
  exact ⟨rfl, hw⟩

end Go.Proofs.Ytbcicfgffjgpdaa

/- What is wrapped, by both texts; the example; two statements of layer 4. No condition. -/
set_option linter.unusedVariables false
set_option linter.unusedSimpArgs false
namespace Go.Proofs.Ytbcicfgffjgpdaa
open Go Go.RowKit

theorem wrapB_no {h n : Int} (k : ¬((1 ≤ h ∧ h ≤ 65536) ∧ 0 ≤ n ∧ n ≤ 1200)) : wrapB h n = [] := if_neg k
theorem wrapB_yes {h n : Int} (k : (1 ≤ h ∧ h ≤ 65536) ∧ 0 ≤ n ∧ n ≤ 1200) : wrapB h n = numB h ++ List.replicate (n + 12).toNat 0 := if_pos k
def WrapPost (h n : Int) (w : World) (e : Ending) (w' : World) : Prop := ∃ v, e = .returned v ∧ OwnI w' w.heap.size .u8 v (wrapB h n) ∧ Below w.heap.size w w'


end Go.Proofs.Ytbcicfgffjgpdaa

/- The example of layer 4, and the walk of IdealBytes. No condition. -/
set_option linter.unusedVariables false
set_option linter.unusedSimpArgs false
namespace Go.Proofs.Ytbcicfgffjgpdaa
open Go Go.RowKit


theorem unwrap_ok (xs : List Int) : ((unwrap xs).2.2 == ((unwrap xs).1 != 0)) = true := by
  unfold unwrap
  split
  · rename_i h
    simp [h.2.2.1]
  · rfl

end Go.Proofs.Ytbcicfgffjgpdaa
