/- Own texts behind the statement TokenOthersCard, one behind the other (part 1 of 4). Each bears its own remark. -/
import Derived.WalkKit
import Derived.Laws.BytesArg
import Derived.Laws.BitsLemmas
import Derived.Lib.Hide
import Derived.StillTailTactics
import Derived.Lib.AppendZerosOnto
import Derived.Laws.CopyOwn
import Derived.Deep.WholeRow
import Derived.Deep.QuietTactic
import Derived.BigQuiet
import Derived.Lib.ConvBytes
import Derived.Test.YtmaedahleenlgaaDoorRows
import Derived.ProofKit
import Derived.OpenShut
import Derived.ShutString
import Derived.ChangeOld
import Derived.Below
import Derived.Test.YtmaedahleenlgaaDoorProg
import Derived.KernelRfl
import Derived.WalkLawsBesides
import Derived.WalkSpells
import Derived.LoopN
import Derived.Handy
import Derived.Deep.Cut
import Derived.Deep.CutBlock
import Derived.DeepKeys4
import Derived.WideKeyMaps
import Derived.Deep.AppendLies
import Derived.Deep.RegionLaw
import Derived.Deep.Slices
import Derived.Deep.Fields
import Derived.Lib.SlicesCompact
/- Rows of whole numbers in memory: read, owned, appended to; what a call may turn (typed frames). No condition. -/
set_option linter.unusedVariables false
set_option linter.unusedSimpArgs false
namespace Go.Proofs.YtmaedahleenlgaaDoor
open Go Go.RowKit

/-- The number at place j; 0 beyond the end. -/
def nth (xs : List Int) (j : Nat) : Int := xs.getD j 0
theorem nth_lt {xs : List Int} {j : Nat} (h : j < xs.length) : xs[j]? = some (nth xs j) := by
  simp [nth, List.getElem?_eq_getElem h]
theorem nth_append_left {xs ys : List Int} {j : Nat} (h : j < xs.length) : nth (xs ++ ys) j = nth xs j := by
  simp [nth, List.getElem?_append_left h]
theorem nth_append_right {xs ys : List Int} {j : Nat} (h : xs.length ≤ j) : nth (xs ++ ys) j = nth ys (j - xs.length) := by
  simp [nth, List.getElem?_append_right h]
theorem ext_nth {xs ys : List Int} (hl : xs.length = ys.length) (h : ∀ j, j < xs.length → nth xs j = nth ys j) : xs = ys := by
  apply List.ext_getElem? 
  intro j
  by_cases hj : j < xs.length
  · rw [nth_lt hj, nth_lt (hl ▸ hj), h j hj]
  · rw [List.getElem?_eq_none (by omega), List.getElem?_eq_none (by omega)]
theorem nth_drop (xs : List Int) (i j : Nat) : nth (xs.drop i) j = nth xs (i + j) := by simp [nth, List.getElem?_drop]
theorem nth_take {xs : List Int} {i j : Nat} (h : j < i) : nth (xs.take i) j = nth xs j := by simp [nth, List.getElem?_take, h]
theorem take_nth_succ {xs : List Int} {k : Nat} (h : k < xs.length) : xs.take (k + 1) = xs.take k ++ [nth xs k] := by
  rw [List.take_add_one, nth_lt h]; rfl
theorem nth_mem {xs : List Int} {j : Nat} (h : j < xs.length) : nth xs j ∈ xs := by
  have := nth_lt h
  exact List.mem_of_getElem? this

/-- Types of blocks that are turned behind a pointer: tables, minds and their kin. -/
def spT (t : Nat) : Bool := List.elem t [
  70,
  40,
  110,
  4,
  0]

/-- A row of whole numbers of kind k that is read at A. -/
def RdI (w : World) (k : IntKind) (A : Option Addr) (xs : List Int) : Prop :=
  ∀ j, j < xs.length → ∃ ad, A = some ad ∧ w.cell? (ad.add j) = some (.int k (nth xs j))

/-- The block of A is from before B, or no special one. -/
def Sf (B : Nat) (w : World) (A : Option Addr) : Prop := ∀ a, A = some a → a.block < w.heap.size ∧ (a.block < B ∨ ∃ cs t fr, w.heap[a.block]? = some (.cells cs t fr) ∧ spT t = false)

/-- The slice value A, n, c reads as xs. -/
structure Rds (B : Nat) (w : World) (k : IntKind) (A : Option Addr) (n c : Nat) (xs : List Int) : Prop where
  len : xs.length = n
  cap : n ≤ c
  max : c ≤ 9223372036854775807
  cell : RdI w k A xs
  safe : 0 < n → Sf B w A

def RdV (B : Nat) (w : World) (k : IntKind) (v : Value) (xs : List Int) : Prop := ∃ A c, v = .slice A xs.length c ∧ Rds B w k A xs.length c xs

theorem RdI.at_ {w : World} {k : IntKind} {A : Option Addr} {xs : List Int} (h : RdI w k A xs) (h0 : 0 < xs.length) :
    ∃ b o, A = some ⟨b, o, none⟩ ∧ ∀ j, j < xs.length → w.cell? ⟨b, o + j, none⟩ = some (.int k (nth xs j)) := by
  obtain ⟨ad, rfl, h1⟩ := h 0 h0
  have hs : ad.spot = none := by
    unfold World.cell? at h1
    cases hsp : ad.spot with
    | none => rfl
    | some _ => simp [Addr.add, hsp] at h1; split at h1 <;> simp_all
  obtain ⟨b, o, s⟩ := ad
  simp at hs
  subst hs
  refine ⟨b, o, rfl, fun j hj => ?_⟩
  obtain ⟨ad2, he, hc⟩ := h j hj
  cases he
  rw [← hc]
  congr 1
  unfold Addr.add
  split <;> simp_all
theorem RdI.nil (w : World) (k : IntKind) (A : Option Addr) : RdI w k A [] := fun j hj => by simp at hj
theorem RdI.drewN {w : World} {k : IntKind} {A : Option Addr} {xs : List Int} (h : RdI w k A xs) (q : Nat) : RdI (w.drewN q) k A xs := fun j hj => by
  obtain ⟨ad, e, hc⟩ := h j hj
  exact ⟨ad, e, by simpa using hc⟩
theorem addr_add (g o j : Nat) : (⟨g, o, none⟩ : Addr).add j = ⟨g, o + j, none⟩ := by unfold Addr.add; split <;> simp_all

theorem below_drewN {B : Nat} {w W : World} (h : Below B w W) (n : Nat) : Below B w (W.drewN n) := ⟨h.os, h.tape, h.output, h.size, h.block⟩
theorem below_next {B : Nat} {w w1 w2 : World} (h : Below B w w1) (hB : B ≤ w1.heap.size) (k : Below w1.heap.size w1 w2) : Below B w w2 :=
  h.trans ⟨k.os, k.tape, k.output, k.size, fun i hi => k.block i (Nat.lt_of_lt_of_le hi hB)⟩
theorem below_step {w w1 w2 : World} (h : Below w.heap.size w w1) (k : Below w1.heap.size w1 w2) : Below w.heap.size w w2 := below_next h h.size k
theorem grown_of_below {w w1 : World} (h : Below w.heap.size w w1) (row : Option Nat) : w.grownBy w1 row := ⟨h.os, h.tape, h.output, h.size, fun i hi _ => h.block i hi⟩

theorem alloc_old {w : World} {o : Obj} {k : Nat} (h : k < w.heap.size) : (w.alloc o).heap[k]? = w.heap[k]? := Below.heap_alloc w o k h
/-! ### Typed frames -/
/-- From w to w' only blocks from B on turned, and of those that were there only such as C names. -/
structure Frm (C : Obj → Bool) (B : Nat) (w w' : World) : Prop where
  os : w'.os = w.os
  tape : w'.tape = w.tape
  output : w'.output = w.output
  size : w.heap.size ≤ w'.heap.size
  block : ∀ k o, w.heap[k]? = some o → (k < B ∨ C o = false) → w'.heap[k]? = some o
theorem Frm.refl (C : Obj → Bool) (B : Nat) (w : World) : Frm C B w w := ⟨rfl, rfl, rfl, Nat.le_refl _, fun _ _ h _ => h⟩
theorem Frm.trans {C : Obj → Bool} {B : Nat} {a b c : World} (h : Frm C B a b) (k : Frm C B b c) : Frm C B a c :=
  ⟨k.os.trans h.os, k.tape.trans h.tape, k.output.trans h.output, Nat.le_trans h.size k.size, fun i o hi hc => k.block i o (h.block i o hi hc) hc⟩
theorem lt_of_get {w : World} {k : Nat} {o : Obj} (h : w.heap[k]? = some o) : k < w.heap.size := (Array.getElem?_eq_some_iff.1 h).1
theorem Frm.of_below {C : Obj → Bool} {B : Nat} {w w' : World} (h : Below w.heap.size w w') : Frm C B w w' :=
  ⟨h.os, h.tape, h.output, h.size, fun k o hk _ => (h.block k (lt_of_get hk)).trans hk⟩
theorem Frm.below {C : Obj → Bool} {B : Nat} {w w' : World} (h : Frm C B w w') (hB : B ≤ w.heap.size) : Below B w w' :=
  ⟨h.os, h.tape, h.output, h.size, fun k hk => by
    have hk' : k < w.heap.size := by omega
    have e : w.heap[k]? = some w.heap[k] := Array.getElem?_eq_getElem hk'
    rw [e]; exact h.block k _ e (.inl hk)⟩
theorem Frm.weak {C : Obj → Bool} {B B' : Nat} {w w' : World} (h : Frm C B w w') (hB : B' ≤ B) : Frm C B' w w' :=
  ⟨h.os, h.tape, h.output, h.size, fun k o hk hc => h.block k o hk (hc.imp (fun x => by omega) id)⟩
theorem Frm.drewN {C : Obj → Bool} {B : Nat} {w w' : World} (h : Frm C B w w') (n : Nat) : Frm C B w (w'.drewN n) := ⟨h.os, h.tape, h.output, h.size, h.block⟩

/-- Only special blocks turn. -/
def spO : Obj → Bool
  | .cells _ t _ => spT t
  | _ => true

theorem Sf.of_lt {B : Nat} {w : World} {A : Option Addr} (h : ∀ a, A = some a → a.block < B ∧ a.block < w.heap.size) : Sf B w A := fun a e => ⟨(h a e).2, .inl (h a e).1⟩
theorem Sf.none (B : Nat) (w : World) : Sf B w none := fun a e => by cases e
theorem Sf.frm {B : Nat} {w w' : World} {A : Option Addr} (h : Sf B w A) (hf : Frm spO B w w') : Sf B w' A := fun a e => by
  obtain ⟨h1, h2⟩ := h a e
  refine ⟨Nat.lt_of_lt_of_le h1 hf.size, ?_⟩
  rcases h2 with h2 | ⟨cs, t, fr, hb, ht⟩
  · exact .inl h2
  · exact .inr ⟨cs, t, fr, hf.block _ _ hb (.inr (by simpa [spO] using ht)), ht⟩
theorem same_block {B : Nat} {w w' : World} {a : Addr} (hs : a.block < w.heap.size ∧ (a.block < B ∨ ∃ cs t fr, w.heap[a.block]? = some (.cells cs t fr) ∧ spT t = false)) (hf : Frm spO B w w') : w'.heap[a.block]? = w.heap[a.block]? := by
  have e : w.heap[a.block]? = some w.heap[a.block] := Array.getElem?_eq_getElem hs.1
  rcases hs.2 with h2 | ⟨cs, t, fr, hb, ht⟩
  · rw [e]; exact hf.block _ _ e (.inl h2)
  · rw [hb]; exact hf.block _ _ hb (.inr (by simpa [spO] using ht))
theorem add_block (a : Addr) (j : Nat) : (a.add j).block = a.block := by unfold Addr.add; split <;> rfl
theorem RdI.frm {B : Nat} {w w' : World} {k : IntKind} {A : Option Addr} {xs : List Int} (h : RdI w k A xs) (hs : 0 < xs.length → Sf B w A) (hf : Frm spO B w w') : RdI w' k A xs := fun j hj => by
  obtain ⟨ad, e, hc⟩ := h j hj
  refine ⟨ad, e, ?_⟩
  rw [← hc]
  exact World.cell?_of_block (by rw [add_block]; exact same_block (hs (by omega) ad e) hf)
theorem Rds.frm {B : Nat} {w w' : World} {k : IntKind} {A : Option Addr} {n c : Nat} {xs : List Int} (h : Rds B w k A n c xs) (hf : Frm spO B w w') : Rds B w' k A n c xs :=
  ⟨h.len, h.cap, h.max, h.cell.frm (fun p => h.safe (by have := h.len; omega)) hf, fun p => (h.safe p).frm hf⟩
theorem RdV.frm {B : Nat} {w w' : World} {k : IntKind} {v : Value} {xs : List Int} (h : RdV B w k v xs) (hf : Frm spO B w w') : RdV B w' k v xs := by
  obtain ⟨A, c, e, hr⟩ := h
  exact ⟨A, c, e, hr.frm hf⟩
theorem Rds.below {B : Nat} {w w' : World} {k : IntKind} {A : Option Addr} {n c : Nat} {xs : List Int} (h : Rds B w k A n c xs) (hf : Below w.heap.size w w') : Rds B w' k A n c xs := h.frm (.of_below hf)
theorem RdV.below {B : Nat} {w w' : World} {k : IntKind} {v : Value} {xs : List Int} (h : RdV B w k v xs) (hf : Below w.heap.size w w') : RdV B w' k v xs := h.frm (.of_below hf)
theorem Rds.nil (B : Nat) (w : World) (k : IntKind) : Rds B w k none 0 0 [] := ⟨rfl, Nat.le_refl _, by omega, RdI.nil _ _ _, fun _ => Sf.none _ _⟩
theorem RdV.nil (B : Nat) (w : World) (k : IntKind) : RdV B w k (.slice none 0 0) [] := ⟨none, 0, rfl, Rds.nil _ _ _⟩
theorem Rds.drewN {B : Nat} {w : World} {k : IntKind} {A : Option Addr} {n c : Nat} {xs : List Int} (h : Rds B w k A n c xs) (q : Nat) : Rds B (w.drewN q) k A n c xs := h.frm ((Frm.refl _ _ _).drewN q)
theorem Rds.mono {B B' : Nat} {w : World} {k : IntKind} {A : Option Addr} {n c : Nat} {xs : List Int} (h : Rds B w k A n c xs) (hB : B ≤ B') : Rds B' w k A n c xs :=
  ⟨h.len, h.cap, h.max, h.cell, fun p a e => ⟨(h.safe p a e).1, (h.safe p a e).2.imp (fun x => by omega) id⟩⟩

theorem Rds.take {B : Nat} {w : World} {k : IntKind} {A : Option Addr} {n c : Nat} {xs : List Int} (h : Rds B w k A n c xs) {m : Nat} (hm : m ≤ n) : Rds B w k A m c (xs.take m) :=
  ⟨by have := h.len; simp; omega, by have := h.cap; omega, h.max, fun j hj => by
    have hj' : j < m := by simp at hj; omega
    rw [nth_take hj']
    exact h.cell j (by have := h.len; omega), fun p => h.safe (by omega)⟩
theorem Rds.drop {B : Nat} {w : World} {k : IntKind} {b o : Nat} {n c : Nat} {xs : List Int} (h : Rds B w k (some ⟨b, o, none⟩) n c xs) {m : Nat} (hm : m ≤ n) (A : Option Addr) (hA : ¬ c = m → A = some ⟨b, o + m, none⟩) (hA' : c = m → A = some ⟨b, o, none⟩) : Rds B w k A (n - m) (c - m) (xs.drop m) := by
  refine ⟨by have := h.len; simp; omega, by have := h.cap; omega, by have := h.max; omega, fun j hj => ?_, fun p a e => ?_⟩
  · have hl := h.len
    have hc := h.cap
    have hj' : m + j < n := by simp at hj; omega
    rw [hA (by omega), nth_drop]
    obtain ⟨ad, e, hcell⟩ := h.cell (m + j) (by omega)
    cases e
    refine ⟨_, rfl, ?_⟩
    rw [addr_add] at hcell ⊢
    rw [Nat.add_assoc]
    exact hcell
  · by_cases hh : c = m
    · rw [hA' hh] at e; cases e; exact h.safe (by omega) _ rfl
    · rw [hA hh] at e; cases e; exact h.safe (by omega) ⟨b, o, none⟩ rfl

/-! ### Rows of the call's own -/
/-- v is a row of whole numbers that starts at the head of a block from B on, or has no room. -/
def OwnI (w : World) (B : Nat) (k : IntKind) (v : Value) (xs : List Int) : Prop :=
  (xs = [] ∧ v = .slice none 0 0) ∨
  ∃ g cap cur t, v = .slice (some ⟨g, 0, none⟩) xs.length cap ∧ B ≤ g ∧ w.heap[g]? = some (.cells cur t (0, 0)) ∧ spT t = false ∧ xs.length ≤ cap ∧ cap ≤ cur.size ∧ cap ≤ 9223372036854775807 ∧
    cur.toList.take xs.length = xs.map (.int k)

theorem OwnI.nil (w : World) (B : Nat) (k : IntKind) : OwnI w B k (.slice none 0 0) [] := .inl ⟨rfl, rfl⟩
theorem OwnI.mono {w : World} {B B' : Nat} {k : IntKind} {v : Value} {xs : List Int} (h : OwnI w B k v xs) (hB : B' ≤ B) : OwnI w B' k v xs := by
  rcases h with h | ⟨g, cap, cur, t, e, hb, r⟩
  · exact .inl h
  · exact .inr ⟨g, cap, cur, t, e, by omega, r⟩
theorem OwnI.new {w' : World} {B : Nat} {k : IntKind} {xs : List Int} {cur : Array Value} {t cap n : Nat} {g : Nat} (hb : w'.heap[g]? = some (.cells cur t (0, 0))) (hg : B ≤ g) (ht : spT t = false)
    (hn : xs.length = n) (h1 : n ≤ cap) (h2 : cap ≤ cur.size) (h3 : cap ≤ 9223372036854775807) (hc : cur.toList.take n = xs.map (.int k)) : OwnI w' B k (.slice (some ⟨g, 0, none⟩) n cap) xs := by
  subst hn
  exact .inr ⟨g, cap, cur, t, rfl, hg, hb, ht, h1, h2, h3, hc⟩
theorem OwnI.rd {w : World} {B B' : Nat} {k : IntKind} {v : Value} {xs : List Int} (h : OwnI w B k v xs) : RdV B' w k v xs := by
  rcases h with ⟨rfl, rfl⟩ | ⟨g, cap, cur, t, rfl, hb, hg, ht, h1, h2, h3, hc⟩
  · exact RdV.nil _ _ _
  · refine ⟨some ⟨g, 0, none⟩, cap, rfl, rfl, h1, h3, fun j hj => ⟨_, rfl, ?_⟩, fun _ a e => ?_⟩
    · rw [addr_add, Nat.zero_add, cell_of_row w g j cur t (0, 0) hg]
      have : (cur.toList.take xs.length)[j]? = some (.int k (nth xs j)) := by rw [hc, List.getElem?_map, nth_lt hj]; rfl
      rw [List.getElem?_take] at this
      simpa [hj] using this
    · cases e
      exact ⟨lt_of_get hg, .inr ⟨cur, t, _, hg, ht⟩⟩
theorem OwnI.rds {w : World} {B B' : Nat} {k : IntKind} {A : Option Addr} {n c : Nat} {xs : List Int} (h : OwnI w B k (.slice A n c) xs) : Rds B' w k A n c xs := by
  obtain ⟨A', c', e, hr⟩ := h.rd (B' := B')
  injection e with e1 e2 e3
  subst e1; subst e2; subst e3
  exact hr
theorem OwnI.kept {w w' : World} {B : Nat} {k : IntKind} {v : Value} {xs : List Int} (h : OwnI w B k v xs) {row : Option Nat} (hg : w.grownBy w' row) (hne : v.ownBlock = none ∨ v.ownBlock ≠ row) : OwnI w' B k v xs := by
  rcases h with h | ⟨g, cap, cur, t, rfl, hb, hgg, r⟩
  · exact .inl h
  · refine .inr ⟨g, cap, cur, t, rfl, hb, ?_, r⟩
    rw [hg.block g (lt_of_get hgg) (by simpa [Value.ownBlock] using hne)]
    exact hgg
theorem OwnI.frm {w w' : World} {B : Nat} {k : IntKind} {v : Value} {xs : List Int} (h : OwnI w B k v xs) {B' : Nat} (hf : Frm spO B' w w') : OwnI w' B k v xs := by
  rcases h with h | ⟨g, cap, cur, t, rfl, hb, hgg, ht, r⟩
  · exact .inl h
  · exact .inr ⟨g, cap, cur, t, rfl, hb, hf.block _ _ hgg (.inr (by simpa [spO] using ht)), ht, r⟩
theorem OwnI.below {w w' : World} {B : Nat} {k : IntKind} {v : Value} {xs : List Int} (h : OwnI w B k v xs) (hf : Below w.heap.size w w') : OwnI w' B k v xs := h.frm (B' := 0) (.of_below hf)
theorem OwnI.lt {w : World} {B : Nat} {k : IntKind} {v : Value} {xs : List Int} (h : OwnI w B k v xs) : ∀ q, v.ownBlock = some q → B ≤ q ∧ q < w.heap.size := by
  intro q hq
  rcases h with ⟨_, rfl⟩ | ⟨g, cap, cur, t, rfl, hb, hgg, _⟩
  · simp [Value.ownBlock] at hq
  · simp [Value.ownBlock] at hq
    subst hq
    exact ⟨hb, lt_of_get hgg⟩
theorem OwnI.slice {w : World} {B : Nat} {k : IntKind} {v : Value} {xs : List Int} (h : OwnI w B k v xs) : ∃ A c, v = .slice A xs.length c := by
  rcases h with ⟨rfl, rfl⟩ | ⟨g, cap, cur, t, rfl, _⟩
  · exact ⟨none, 0, rfl⟩
  · exact ⟨_, _, rfl⟩
theorem OwnI.form {w : World} {B : Nat} {k : IntKind} {v : Value} {xs : List Int} (h : OwnI w B k v xs) (h0 : 0 < xs.length) : ∃ g cap, v = .slice (some ⟨g, 0, none⟩) xs.length cap ∧ B ≤ g ∧ g < w.heap.size ∧ xs.length ≤ cap ∧
    (∀ j, j < xs.length → w.cell? ⟨g, j, none⟩ = some (.int k (nth xs j))) ∧ (∀ j, w.frozen? ⟨g, j, none⟩ = false) ∧ (∀ j x, j < xs.length → OwnI (w.setCell ⟨g, j, none⟩ (.int k x)) B k v (xs.set j x)) := by
  rcases h with ⟨rfl, _⟩ | ⟨g, cap, cur, t, rfl, hb, hg, ht, h1, h2, h3, hc⟩
  · simp at h0
  · refine ⟨g, cap, rfl, hb, lt_of_get hg, h1, fun j hj => ?_, fun j => frozen_of_row w g j cur t hg, fun j x hj => ?_⟩
    · rw [cell_of_row w g j cur t (0, 0) hg]
      have : (cur.toList.take xs.length)[j]? = some (.int k (nth xs j)) := by rw [hc, List.getElem?_map, nth_lt hj]; rfl
      rw [List.getElem?_take] at this
      simpa [hj] using this
    · refine .inr ⟨g, cap, cur.setIfInBounds j (.int k x), t, by simp, hb, ?_, ht, by simpa using h1, by simpa using h2, h3, ?_⟩
      · exact heap_setCell_same w g j cur t _ hg
      · simp only [Array.toList_setIfInBounds, List.length_set]
        rw [List.take_set, hc, List.map_set]
/-- A block of numbers just made, and the slice over it. -/
theorem OwnI.fresh {w : World} {B : Nat} {k : IntKind} {xs : List Int} {t : Nat} (hB : B ≤ w.heap.size) (ht : spT t = false) (hm : xs.length ≤ 9223372036854775807) :
    OwnI (w.alloc (.cells (xs.map (Value.int k)).toArray t)) B k (.slice (some ⟨w.heap.size, 0, none⟩) xs.length xs.length) xs :=
  .inr ⟨w.heap.size, xs.length, _, t, rfl, hB, heap_alloc_new w _, ht, Nat.le_refl _, by simp, hm, by simp [List.take_of_length_le]⟩
theorem OwnI.setBelow {w : World} {B : Nat} {k : IntKind} {v : Value} {xs : List Int} (h : OwnI w B k v xs) {p : Addr} (hp : p.block < B) (u : Value) : OwnI (w.setCell p u) B k v xs := by
  rcases h with h | ⟨g, cap, cur, t, rfl, hb, hgg, r⟩
  · exact .inl h
  · refine .inr ⟨g, cap, cur, t, rfl, hb, ?_, r⟩
    rw [Below.heap_setCell w p u g (by omega)]
    exact hgg
/-- The row of no element. -/
theorem OwnI.empty {w : World} {B : Nat} {k : IntKind} {t : Nat} (hB : B ≤ w.heap.size) (ht : spT t = false) : OwnI (w.alloc (.cells #[] t)) B k (.slice (some ⟨w.heap.size, 0, none⟩) 0 0) [] :=
  OwnI.fresh (xs := []) hB ht (by decide)
theorem RdI.one (w : World) (k : IntKind) (x : Int) (t : Nat) : RdI (w.alloc (.cells #[.int k x] t)) k (some ⟨w.heap.size, 0, none⟩) [x] := fun j hj => by
  have : j = 0 := by simp at hj; exact hj
  subst this
  exact ⟨_, rfl, by rw [addr_add]; simp [nth]⟩
theorem RdI.one_at (w : World) (k : IntKind) (x : Int) (t : Nat) {g : Nat} (hg : w.heap.size = g) : RdI (w.alloc (.cells #[.int k x] t)) k (some ⟨g, 0, none⟩) [x] := by
  subst hg; exact RdI.one w k x t
theorem replicate_snoc (k : Nat) (x : Int) : List.replicate k x ++ [x] = List.replicate (k + 1) x := by rw [List.replicate_succ']
theorem below_new {w : World} (o : Obj) : Below w.heap.size w (w.alloc o) := (Below.refl _ _).alloc (Nat.le_refl _) o

theorem i64_or (x y : Int) (i : Nat) (hx₀ : 0 ≤ x) (hx : x % 2 ^ i = 0) (hx₁ : x < 9223372036854775808) (h₀ : 0 ≤ y) (h₁ : y < 2 ^ i) (h₂ : y < 9223372036854775808) : bits .or .i64 x y = x + y :=
  bits_join .i64 63 (by decide) (fun n h0 h1 => by rw [IntKind.wrap_i64]; omega) i x y hx₀ hx (by omega) h₀ h₁ (by omega)
/-! ### append -/
section
variable {P : Program}
theorem run_store_none (a : Addr) (w : World) : (storeCells a []).run P w = .ok () w := by simp [storeCells]

theorem run_app_nil_src {w : World} (t ty e : Nat) (i : TypeInfo) (ht : P.underlying t = some (.slice e)) (hi : P.info? e = some i) (A0 : Option Addr) (n cap : Nat) (hc : n ≤ cap) (A : Option Addr) (c : Nat) :
    (Builtin.append_ #[t, t] ty #[.slice A0 n cap, .slice A 0 c]).run P w = .ok (.slice A0 n cap) w := by
  cases A0 <;> cases A <;> simp [Builtin.append_, run_underlying ht, sizeOf, typeInfo, hi, Builtin.lenOf, hc, Builtin.firstCells, loadCells, loadCellsFrom, run_store_none]

theorem run_app_room {w : World} (t ty e : Nat) (i : TypeInfo) (ht : P.underlying t = some (.slice e)) (hi : P.info? e = some i) (hs : i.size = 1)
    (g n cap : Nat) (cur : Array Value) (T : Nat) (hg : w.heap[g]? = some (.cells cur T (0, 0))) (a : Addr) (m c : Nat) (news : List Value) (hl : news.length = m)
    (hnews : ∀ j u, news[j]? = some u → w.cell? (a.add j) = some u) (h1 : ∀ u ∈ news, u.oneCell' = true) (hroom : n + m ≤ cap) (hfit : n + m ≤ cur.size) :
    (Builtin.append_ #[t, t] ty #[.slice (some ⟨g, 0, none⟩) n cap, .slice (some a) m c]).run P w =
      .ok (.slice (some ⟨g, 0, none⟩) (n + m) cap) (w.setRow g (cur.toList.take n ++ news ++ cur.toList.drop (n + m)).toArray) := by
  have hf := run_firstCells_some (P := P) w i.size m a m c news (by rw [hs]; omega) hnews
  have hst := run_storeCells_at P g (n * i.size) T news 0 cur w hg (by rw [hs]; omega) h1
  rw [hs] at hf hst
  simp only [Nat.add_zero, Nat.mul_one, hl] at hst
  try simp only [Nat.mul_one] at hf
  simp [Builtin.append_, run_underlying ht, sizeOf, typeInfo, hi, hs, Builtin.lenOf, hroom, hf, Addr.add_lit, hst]

/-- append of a row that is read to a row of the call's own. -/
theorem run_app {w : World} (t ty e : Nat) (i : TypeInfo) (z : Value) (k : IntKind) (bytes : Nat) (ht : P.underlying t = some (.slice e)) (hi : P.info? e = some i) (hz : i.zero = some z) (hs : i.size = 1) (hby : i.bytes = bytes) (hzs : z.cells.size = 1) (he : spT e = false)
    {B : Nat} {v : Value} {xs ys : List Int} (hown : OwnI w B k v xs) {A : Option Addr} {m c : Nat} (hr : RdI w k A ys) (hm : ys.length = m) (hB : B ≤ w.heap.size) (hbytes : (xs.length + m) * bytes ≤ 140737488355328) (h63 : xs.length + m ≤ 9223372036854775807) :
    ∃ v' w', (Builtin.append_ #[t, t] ty #[v, .slice A m c]).run P w = .ok v' w' ∧ OwnI w' B k v' (xs ++ ys) ∧ w.grownBy w' v.ownBlock ∧ Below B w w' := by
  by_cases hy : ys = []
  · subst hy
    simp only [List.length_nil] at hm
    subst hm
    rcases hown with ⟨rfl, rfl⟩ | ⟨g, cap, cur, T, rfl, hb, hg, hT, h1, h2, h3, hc⟩
    · exact ⟨_, w, run_app_nil_src t ty e i ht hi none 0 0 (Nat.le_refl _) A c, .inl ⟨rfl, rfl⟩, .refl _ _, Below.refl _ _⟩
    · exact ⟨_, w, run_app_nil_src t ty e i ht hi _ _ cap h1 A c, by rw [List.append_nil]; exact .inr ⟨g, cap, cur, T, rfl, hb, hg, hT, h1, h2, h3, hc⟩, .refl _ _, Below.refl _ _⟩
  · have hpos : 0 < ys.length := List.length_pos_iff.2 hy
    obtain ⟨b, o, rfl, hcell⟩ := hr.at_ hpos
    have hnews : ∀ j u, (ys.map (Value.int k))[j]? = some u → w.cell? ((⟨b, o, none⟩ : Addr).add j) = some u := by
      intro j u hu
      have hj : j < ys.length := by simpa using (List.getElem?_eq_some_iff.1 hu).1
      rw [addr_add, hcell j hj]
      rw [List.getElem?_map, nth_lt hj] at hu
      exact hu
    have hl : (ys.map (Value.int k)).length = m * i.size := by rw [hs]; simp [hm]
    have grown : ∀ (old : Nat), old < xs.length + m → ∀ (row : Option Nat) (W : World), W = (w.drew.alloc (.cells ((xs.map (Value.int k)).toArray ++ (ys.map (Value.int k)).toArray ++ Builtin.zeroCells z.cells (grownCap w (xs.length + m) old e - (xs.length + m))) e)) →
        OwnI W B k (.slice (some ⟨w.heap.size, 0, none⟩) (xs.length + m) (grownCap w (xs.length + m) old e)) (xs ++ ys) ∧ w.grownBy W row ∧ Below B w W := by
      intro old ho row W hW
      have hge := grownCap_ge w (xs.length + m) old e
      have hcm : grownCap w (xs.length + m) old e ≤ 9223372036854775807 := by
        have := grownCap_le_maxLen w (xs.length + m) old e (by simp only [maxLen]; omega)
        simpa only [maxLen] using this
      subst hW
      refine ⟨OwnI.new (t := e) (heap_alloc_new w.drew _) hB he (by simp [hm]) hge ?_ hcm ?_, ⟨rfl, rfl, rfl, by simp, fun q hq _ => (Array.getElem?_push_lt hq).trans (Array.getElem?_eq_getElem hq).symm⟩, ((Below.refl _ _).drew).alloc hB _⟩
      · simp only [Array.size_append, List.size_toArray, List.length_map, size_zeroCells, hzs, hm]
        omega
      · simp only [Array.toList_append, List.append_assoc, List.map_append]
        rw [← List.append_assoc]
        rw [show xs.length + m = (xs.map (Value.int k) ++ ys.map (Value.int k)).length from by simp [hm]]
        exact List.take_left
    rcases hown with ⟨rfl, rfl⟩ | ⟨g, cap, cur, T, rfl, hb, hg, hT, h1, h2, h3, hc⟩
    · have hrun := run_append_nil (P := P) w t ty e i z ht hi hz ⟨b, o, none⟩ m c _ hl hnews (by omega) (by simp at h63; omega) (by rw [hby]; simp at hbytes; omega)
      have hgr := grown 0 (by simp; omega) (Value.ownBlock (.slice none 0 0)) _ rfl
      simp only [List.length_nil, Nat.zero_add, List.map_nil, List.nil_append, Array.empty_append] at hgr
      exact ⟨_, _, hrun, hgr.1, hgr.2.1, hgr.2.2⟩
    · by_cases hroom : xs.length + m ≤ cap
      · have hrun := run_app_room t ty e i ht hi hs g xs.length cap cur T hg ⟨b, o, none⟩ m c (ys.map (Value.int k)) (by simpa using hm) hnews (ints_oneCell k ys) hroom (by omega)
        refine ⟨_, _, hrun, OwnI.new (t := T) (setRow_heap w g cur _ T _ hg) hb hT (by simp [hm]) hroom ?_ h3 ?_, ⟨rfl, rfl, rfl, by simp, fun q _ hq => setRow_other w g q _ (fun e => hq (by simp [Value.ownBlock, e]))⟩, ⟨rfl, rfl, rfl, by simp, fun q hq => setRow_other w g q _ (by omega)⟩⟩
        · simp only [List.size_toArray, List.length_append, List.length_take, List.length_drop, Array.length_toList, List.length_map]
          omega
        · rw [hc]
          simp only [List.map_append]
          rw [show xs.length + m = (xs.map (Value.int k) ++ ys.map (Value.int k)).length from by simp [hm]]
          exact List.take_left
      · have holds : ∀ j u, (xs.map (Value.int k))[j]? = some u → w.cell? ((⟨g, 0, none⟩ : Addr).add j) = some u := by
          intro j u hu
          rw [← hc, List.getElem?_take] at hu
          split at hu
          · rw [addr_add, Nat.zero_add, cell_of_row w g j cur T (0, 0) hg]; simpa using hu
          · cases hu
        have hrun := run_append_grow (P := P) w t ty e i z ht hi hz ⟨g, 0, none⟩ xs.length cap (xs.map (Value.int k)) (by rw [hs]; simp) holds ⟨b, o, none⟩ m c _ hl hnews (by omega) (by omega) (growslice_fits (by omega) (by rw [hby]; exact hbytes))
        have hgr := grown cap (by omega) (Value.ownBlock (.slice (some ⟨g, 0, none⟩) xs.length cap)) _ rfl
        exact ⟨_, _, hrun, hgr.1, hgr.2.1, hgr.2.2⟩

theorem wp_app {w : World} {ops : Array Oper} {rest : List Oper} {o : Oper} {a : Act} {Q : Exit → Act → World → Prop} (hgd : o.guard = none) (s x : Operand) (t e : Nat) (i : TypeInfo) (z : Value) (k : IntKind) (bytes : Nat)
    (ho : o.op = .call { callee := .builtin .append, args := #[s, x], argTypes := #[t, t] })
    (ht : P.underlying t = some (.slice e)) (hi : P.info? e = some i) (hz : i.zero = some z) (hs : i.size = 1) (hby : i.bytes = bytes) (hzs : z.cells.size = 1) (he : spT e = false)
    {B : Nat} {v : Value} {xs ys : List Int} {A : Option Addr} {m c : Nat} (hv : a.eval s = v) (hx : a.eval x = .slice A m c) (hown : OwnI w B k v xs) (hr : RdI w k A ys) (hm : ys.length = m) (hB : B ≤ w.heap.size) (hbytes : (xs.length + m) * bytes ≤ 140737488355328) (h63 : xs.length + m ≤ 9223372036854775807)
    (h : ∀ v' w', OwnI w' B k v' (xs ++ ys) → w.grownBy w' v.ownBlock → Below B w w' → wpList P ops Q rest (a.put o.dst v') w') : wpList P ops Q (o :: rest) a w := by
  obtain ⟨v', w', hrun, h1, h2, h3⟩ := run_app (P := P) (w := w) t o.type e i z k bytes ht hi hz hs hby hzs he hown (c := c) hr hm hB hbytes h63
  refine wpList_plain hgd fun K hK => ?_
  unfold Oper.wp execOp
  simp only [ho, resolve, invoke, builtin, Sem.run_bind, Sem.run_pure, Result.andThen_ok, List.map_toArray, List.map_cons, List.map_nil, hv, hx, hrun]
  exact hK _ _ (h v' w' h1 h2 h3)

theorem zeroCells_one (z : Value) (h : z.cells = #[z]) (n : Nat) : (Builtin.zeroCells z.cells n).toList = List.replicate n z := by
  rw [h]
  apply List.ext_getElem?
  intro j
  simp only [Builtin.zeroCells]
  by_cases hj : j < n
  · simp [hj, Nat.mod_one]
  · simp [hj]
theorem run_app_zeros_room {w : World} (t tn ty e : Nat) (i : TypeInfo) (z : Value) (kq kn : IntKind) (ht : P.underlying t = some (.slice e)) (htn : P.underlying tn = some (.int kn)) (hi : P.info? e = some i) (hz : i.zero = some z) (hs : i.size = 1)
    (g n cap : Nat) (cur : Array Value) (T : Nat) (hg : w.heap[g]? = some (.cells cur T (0, 0))) (m : Nat) (h0 : 0 < m) (hzc : z.cells = #[z]) (h1 : z.oneCell' = true) (h63 : m ≤ 9223372036854775807) (h48 : m * i.bytes ≤ 281474976710656) (hroom : n + m ≤ cap) (hfit : n + m ≤ cur.size) :
    (Builtin.append_ #[t, tn] ty #[.slice (some ⟨g, 0, none⟩) n cap, .int kq m]).run P w =
      .ok (.slice (some ⟨g, 0, none⟩) (n + m) cap) (w.setRow g (cur.toList.take n ++ List.replicate m z ++ cur.toList.drop (n + m)).toArray) := by
  have hst := run_storeCells_at P g (n * i.size) T (List.replicate m z) 0 cur w hg (by rw [hs]; simp; omega) (by intro u hu; rw [List.eq_of_mem_replicate hu]; exact h1)
  rw [hs] at hst
  simp only [Nat.add_zero, Nat.mul_one, List.length_replicate] at hst
  have hw : IntKind.i64.wrap (m : Int) = m := by rw [IntKind.wrap_i64]; omega
  have hneg : ¬ ((m : Int) < 0) := by omega
  have h48i : ¬ (281474976710656 < (m : Int) * (i.bytes : Int)) := by
    rw [← Int.natCast_mul]
    omega
  have hm0 : m ≠ 0 := by omega
  have hl := zeroCells_one z hzc m
  simp [Builtin.append_, run_underlying ht, run_underlying htn, sizeOf, typeInfo, zeroValue, hi, hz, hs, asInt, asIntOf, hw, hneg, h48i, hm0, hroom, Addr.add_lit, hl, hst]
/-- append(s, make(T, m)...) for a row of the call's own. -/
theorem run_app_zeros {w : World} (t tn ty e : Nat) (i : TypeInfo) (k kq kn : IntKind) (bytes : Nat) (ht : P.underlying t = some (.slice e)) (htn : P.underlying tn = some (.int kn)) (hi : P.info? e = some i) (hz : i.zero = some (.int k 0)) (hs : i.size = 1) (hby : i.bytes = bytes) (he : spT e = false)
    {B : Nat} {v : Value} {xs : List Int} (hown : OwnI w B k v xs) {m : Nat} (h0 : 0 < m) (hB : B ≤ w.heap.size) (hbytes : (xs.length + m) * bytes ≤ 140737488355328) (h63 : xs.length + m ≤ 9223372036854775807) :
    ∃ v' w', (Builtin.append_ #[t, tn] ty #[v, .int kq m]).run P w = .ok v' w' ∧ OwnI w' B k v' (xs ++ List.replicate m 0) ∧ w.grownBy w' v.ownBlock ∧ Below B w w' := by
  have hzc : (Value.int k 0).cells = #[.int k 0] := rfl
  have hb1 : m * i.bytes ≤ 281474976710656 := by rw [hby]; have := Nat.mul_le_mul_right bytes (Nat.le_add_left m xs.length); omega
  have grown : ∀ (old : Nat), old < xs.length + m → ∀ (row : Option Nat) (W : World), W = (w.drew.alloc (.cells ((xs.map (Value.int k)).toArray ++ Builtin.zeroCells (Value.int k 0).cells m ++ Builtin.zeroCells (Value.int k 0).cells (grownCap w (xs.length + m) old e - (xs.length + m))) e)) →
      OwnI W B k (.slice (some ⟨w.heap.size, 0, none⟩) (xs.length + m) (grownCap w (xs.length + m) old e)) (xs ++ List.replicate m 0) ∧ w.grownBy W row ∧ Below B w W := by
    intro old ho row W hW
    have hge := grownCap_ge w (xs.length + m) old e
    have hcm : grownCap w (xs.length + m) old e ≤ 9223372036854775807 := by
      have := grownCap_le_maxLen w (xs.length + m) old e (by simp only [maxLen]; omega)
      simpa only [maxLen] using this
    subst hW
    refine ⟨OwnI.new (t := e) (heap_alloc_new w.drew _) hB he (by simp) hge ?_ hcm ?_, ⟨rfl, rfl, rfl, by simp, fun q hq _ => (Array.getElem?_push_lt hq).trans (Array.getElem?_eq_getElem hq).symm⟩, ((Below.refl _ _).drew).alloc hB _⟩
    · simp only [Array.size_append, List.size_toArray, List.length_map, size_zeroCells, hzc]
      simp
      omega
    · simp only [Array.toList_append, List.append_assoc, List.map_append, zeroCells_one _ hzc, List.map_replicate]
      rw [← List.append_assoc]
      rw [show xs.length + m = (xs.map (Value.int k) ++ List.replicate m (Value.int k 0)).length from by simp]
      exact List.take_left
  rcases hown with ⟨rfl, rfl⟩ | ⟨g, cap, cur, T, rfl, hb, hg, hT, h1, h2, h3, hc⟩
  · have hrun := Lib.run_append_nil_zeros (P := P) w t tn ty e i (.int k 0) kq kn ht htn hi hz m h0 (by omega) (by simp at h63; omega) hb1
    have hgr := grown 0 (by simp; omega) (Value.ownBlock (.slice none 0 0)) _ rfl
    simp only [List.length_nil, Nat.zero_add, List.map_nil, List.nil_append, Array.empty_append] at hgr
    exact ⟨_, _, hrun, hgr.1, hgr.2.1, hgr.2.2⟩
  · by_cases hroom : xs.length + m ≤ cap
    · have hrun := run_app_zeros_room t tn ty e i (.int k 0) kq kn ht htn hi hz hs g xs.length cap cur T hg m h0 hzc rfl (by omega) hb1 hroom (by omega)
      refine ⟨_, _, hrun, OwnI.new (t := T) (setRow_heap w g cur _ T _ hg) hb hT (by simp) hroom ?_ h3 ?_, ⟨rfl, rfl, rfl, by simp, fun q _ hq => setRow_other w g q _ (fun e => hq (by simp [Value.ownBlock, e]))⟩, ⟨rfl, rfl, rfl, by simp, fun q hq => setRow_other w g q _ (by omega)⟩⟩
      · simp only [List.size_toArray, List.length_append, List.length_take, List.length_drop, Array.length_toList, List.length_replicate]
        omega
      · rw [hc]
        simp only [List.map_append, List.map_replicate]
        rw [show xs.length + m = (xs.map (Value.int k) ++ List.replicate m (Value.int k 0)).length from by simp]
        exact List.take_left
    · have holds : ∀ j u, (xs.map (Value.int k))[j]? = some u → w.cell? ((⟨g, 0, none⟩ : Addr).add j) = some u := by
        intro j u hu
        rw [← hc, List.getElem?_take] at hu
        split at hu
        · rw [addr_add, Nat.zero_add, cell_of_row w g j cur T (0, 0) hg]; simpa using hu
        · cases hu
      have hf := run_firstCells_some (P := P) w.drew i.size xs.length ⟨g, 0, none⟩ xs.length cap (xs.map (Value.int k)) (by rw [hs]; simp) holds
      have hrun := Lib.run_append_grow_zeros (P := P) w t tn ty e i (.int k 0) kq kn ht htn hi hz (some ⟨g, 0, none⟩) xs.length cap (xs.map (Value.int k)) hf m h0 (by omega) (by omega) (by omega) hb1 (growslice_fits (by omega) (by rw [hby]; exact hbytes))
      have hgr := grown cap (by omega) (Value.ownBlock (.slice (some ⟨g, 0, none⟩) xs.length cap)) _ rfl
      exact ⟨_, _, hrun, hgr.1, hgr.2.1, hgr.2.2⟩
theorem wp_app_run {w : World} {ops : Array Oper} {rest : List Oper} {o : Oper} {a : Act} {Q : Exit → Act → World → Prop} (hgd : o.guard = none) (s x : Operand) (t tn : Nat)
    (ho : o.op = .call { callee := .builtin .append, args := #[s, x], argTypes := #[t, tn] }) {v vx : Value} (hv : a.eval s = v) (hx : a.eval x = vx)
    {v' : Value} {w' : World} (hrun : (Builtin.append_ #[t, tn] o.type #[v, vx]).run P w = .ok v' w') (h : wpList P ops Q rest (a.put o.dst v') w') : wpList P ops Q (o :: rest) a w := Lib.wpList_append_run w hgd s x t tn ho v vx hv hx v' w' hrun h
/-- A region that draws its order, all but its tail only read: the order of the text serves. -/
theorem wp_still_tail {id : Nat} {Q : Exit → Act → World → Prop} {a : Act} {w : World} {l : List Oper} (n : Nat) (hm : P.follows .mixedOrders = true) (hB : Region.lexTailB .any l.toArray n = true)
    (h : ∀ w1, w1 = w.drew → wpStill P l.toArray w1 (fun a' => wpList P l.toArray Q (l.drop n) a' w1) (l.take n) a) : (Code.region id l.toArray true).wp P Q a w :=
  wp_region_still_tail n hm hB (h _ rfl)
theorem wp_still_all {id : Nat} {Q : Exit → Act → World → Prop} {a : Act} {w : World} {l : List Oper} (hm : P.follows .mixedOrders = true) (hB : Region.lexB .any l.toArray = true)
    (h : ∀ w1, w1 = w.drew → wpStill P l.toArray w1 (fun a' => Q .normal a' w1) l a) : (Code.region id l.toArray true).wp P Q a w :=
  wp_region_still_lit hm hB (h _ rfl)
theorem wpStill_op {w : World} {ops : Array Oper} {rest : List Oper} {o : Oper} {a : Act} {Q : Act → Prop} (hgd : o.guard = none) {v : Value}
    (hrun : (execOp a.eval o).run P w = .ok (.value v) w) (h : wpStill P ops w Q rest (a.put o.dst v)) : wpStill P ops w Q (o :: rest) a :=
  wpStill_step fun K hK => by
    rw [if_pos (by simp [Region.wanted, hgd])]
    unfold Oper.still
    rw [hrun]
    exact ⟨rfl, hK _ h⟩
/-- A whole value is read out of a block. -/
theorem run_loadAt_row {w : World} (ty g : Nat) (cs : Array Value) (t : Nat) (fr : Nat × Nat) (d : TypeDesc) (hu : P.underlying ty = some d) (hd : (match d with | .struct _ | .array _ _ => true | _ => false) = true) (hs : (P.info? ty).map (·.size) = some cs.size) (hg : w.heap[g]? = some (.cells cs t fr)) :
    (Instr.loadAt ty (.pointer (some ⟨g, 0, none⟩))).run P w = .ok (.agg cs) w := by
  have hl := run_loadCells_list (P := P) w ⟨g, 0, none⟩ cs.toList (fun j v hj => by
    rw [addr_add, Nat.zero_add, cell_of_row w g j cs t fr hg]
    simpa using hj)
  obtain ⟨i, hi, hsz⟩ := Option.map_eq_some_iff.1 hs
  simp only [Array.length_toList] at hl
  cases d <;> simp at hd <;> simp [Instr.loadAt, Instr.sureAddr, loadVar, isAgg, run_underlying hu, sizeOf, typeInfo, hi, hsz, hl]
theorem wpStill_load_row {w : World} {ops : Array Oper} {rest : List Oper} {o : Oper} {a : Act} {Q : Act → Prop} (hgd : o.guard = none) (ty : Nat) (x : Operand) (ho : o.op = .load ty x) (g : Nat) (hx : a.eval x = .pointer (some ⟨g, 0, none⟩)) (cs : Array Value) (t : Nat) (fr : Nat × Nat) (d : TypeDesc)
    (hu : P.underlying ty = some d) (hd : (match d with | .struct _ | .array _ _ => true | _ => false) = true) (hs : (P.info? ty).map (·.size) = some cs.size) (hg : w.heap[g]? = some (.cells cs t fr))
    (h : wpStill P ops w Q rest (a.put o.dst (.agg cs))) : wpStill P ops w Q (o :: rest) a := by
  refine wpStill_op hgd ?_ h
  unfold execOp
  simp only [ho, hx, Sem.run_bind, run_loadAt_row (P := P) ty g cs t fr d hu hd hs hg, Result.andThen_ok, Sem.run_pure]
/-- An operation whose run is known. -/
theorem wp_op {w w' : World} {ops : Array Oper} {rest : List Oper} {o : Oper} {a : Act} {Q : Exit → Act → World → Prop} (hgd : o.guard = none) {v : Value}
    (hrun : (execOp a.eval o).run P w = .ok (.value v) w') (h : wpList P ops Q rest (a.put o.dst v) w') : wpList P ops Q (o :: rest) a w :=
  wpList_plain hgd fun K hK => by
    unfold Oper.wp
    rw [hrun]
    exact hK _ _ h
theorem wp_op_skip {w w' : World} {ops : Array Oper} {rest : List Oper} {o : Oper} {a : Act} {Q : Exit → Act → World → Prop} (hgd : o.guard = none)
    (hrun : (execOp a.eval o).run P w = .ok .skip w') (h : wpList P ops Q rest (a.put o.dst undef) w') : wpList P ops Q (o :: rest) a w :=
  wpList_plain hgd fun K hK => by
    unfold Oper.wp
    rw [hrun]
    exact hK _ _ h
theorem wp_convert {w w' : World} {ops : Array Oper} {rest : List Oper} {o : Oper} {a : Act} {Q : Exit → Act → World → Prop} (hgd : o.guard = none) (src dst : TypeId) (x : Operand) (ho : o.op = .convert src dst x) {u v : Value} (hx : a.eval x = u)
    (hrun : (convert src dst u).run P w = .ok v w') (h : wpList P ops Q rest (a.put o.dst v) w') : wpList P ops Q (o :: rest) a w := by
  refine wp_op hgd ?_ h
  unfold execOp
  simp only [ho, hx, Sem.run_bind, hrun, Result.andThen_ok, Sem.run_pure]
/-- A whole value is stored over a block. -/
theorem run_storeAt_row {w : World} (ty : Nat) (g : Nat) (cur cs : Array Value) (t : Nat) (hs : (P.info? ty).map (·.size) = some cs.size) (hg : w.heap[g]? = some (.cells cur t (0, 0))) (hc : cur.size = cs.size) (h1 : ∀ v ∈ cs.toList, v.oneCell' = true) :
    (Instr.storeAt ty (.pointer (some ⟨g, 0, none⟩)) (.agg cs)).run P w = .ok () (w.setRow g cs) := by
  have hst := run_storeCells_at P g 0 t cs.toList 0 cur w hg (by simp; omega) h1
  obtain ⟨i, hi, hsz⟩ := Option.map_eq_some_iff.1 hs
  simp only [Nat.add_zero, List.take_zero, List.nil_append, Nat.zero_add] at hst
  rw [List.drop_eq_nil_of_le (by simp; omega), List.append_nil] at hst
  simp [Instr.storeAt, Instr.sureAddr, storeVar, sizeOf, typeInfo, hi, hsz, Value.cells, hst]
theorem wp_store_new {w0 : World} {ops : Array Oper} {rest : List Oper} {o : Oper} {a : Act} {Q : Exit → Act → World → Prop} (hgd : o.guard = none) (hdst : o.dst = none) (ty : Nat) (x y : Operand) (ho : o.op = .store ty x y) (cur cs : Array Value) (t : Nat) (g : Nat) (hgs : w0.heap.size = g) (hx : a.eval x = .pointer (some ⟨g, 0, none⟩)) (hy : a.eval y = .agg cs)
    (hs : (P.info? ty).map (·.size) = some cs.size) (hc : cur.size = cs.size) (h1 : ∀ v ∈ cs.toList, v.oneCell' = true)
    (h : wpList P ops Q rest a (w0.alloc (.cells cs t))) : wpList P ops Q (o :: rest) a (w0.alloc (.cells cur t)) := by
  subst hgs
  have hrun := run_storeAt_row (P := P) ty w0.heap.size cur cs t hs (heap_alloc_new w0 _) hc h1
  rw [World.setRow_alloc_new] at hrun
  refine wp_op_skip hgd ?_ (by rw [hdst]; exact h)
  unfold execOp
  simp only [ho, hx, hy, Sem.run_bind, hrun, Result.andThen_ok, Sem.run_pure]
/-- copy into the block that was made last. -/
theorem wp_copy_new {w0 : World} {ops : Array Oper} {rest : List Oper} {o : Oper} {a : Act} {Q : Exit → Act → World → Prop} (hgd : o.guard = none) (d s : Operand) (dT sT : TypeId)
    (ho : o.op = .call { callee := .builtin .copy, args := #[d, s], argTypes := #[dT, sT] }) (elem : TypeId) (hu : P.underlying dT = some (.slice elem)) (hsz : (P.info? elem).map (·.size) = some 1)
    (g : Nat) (hgs : w0.heap.size = g) (off dLen dCap : Nat) (ad : Addr) (sLen sCap : Nat) (hd : a.eval d = .slice (some ⟨g, off, none⟩) dLen dCap) (hs : a.eval s = .slice (some ad) sLen sCap)
    (cur : Array Value) (t : TypeId) (cs : List Value) (hn : cs.length = Nat.min sLen dLen)
    (hsrc : ∀ j v, cs[j]? = some v → (w0.alloc (.cells cur t)).cell? (ad.add j) = some v) (hfit : off + cs.length ≤ cur.size) (h1 : ∀ v ∈ cs, v.oneCell' = true)
    (out : Array Value) (hout : out = (cur.toList.take off ++ (cs ++ cur.toList.drop (off + cs.length))).toArray)
    (h : wpList P ops Q rest (a.put o.dst (goInt cs.length)) (w0.alloc (.cells out t))) : wpList P ops Q (o :: rest) a (w0.alloc (.cells cur t)) := by
  subst hgs
  refine wpList_copy_own hgd d s dT sT ho elem hu hsz w0.heap.size off dLen dCap ad sLen sCap hd hs cur t (heap_alloc_new _ _) cs hn hsrc hfit h1 ?_
  rw [World.setRow_alloc_new, ← hout]
  exact h
/-- The cells of a row that is read, as the laws on append and copy want them. -/
theorem news_of0 {w : World} {k : IntKind} {b o : Nat} {ys : List Int} (hcell : ∀ j, j < ys.length → w.cell? ⟨b, o + j, none⟩ = some (.int k (nth ys j))) :
    ∀ j u, (ys.map (Value.int k))[j]? = some u → w.cell? ((⟨b, o, none⟩ : Addr).add j) = some u := by
  intro j u hu
  have hj : j < ys.length := by simpa using (List.getElem?_eq_some_iff.1 hu).1
  rw [addr_add, hcell j hj]
  rw [List.getElem?_map, nth_lt hj] at hu
  exact hu
/-- copy of a row that is read into a block. -/
theorem wp_copy_row {w : World} {ops : Array Oper} {rest : List Oper} {o : Oper} {a : Act} {Q : Exit → Act → World → Prop} (hgd : o.guard = none) (d s : Operand) (dT sT : TypeId)
    (ho : o.op = .call { callee := .builtin .copy, args := #[d, s], argTypes := #[dT, sT] }) (elem : TypeId) (hu : P.underlying dT = some (.slice elem)) (hsz : (P.info? elem).map (·.size) = some 1)
    (g off dLen dCap : Nat) (A : Option Addr) (m sCap : Nat) (hd : a.eval d = .slice (some ⟨g, off, none⟩) dLen dCap) (hs : a.eval s = .slice A m sCap)
    (cur : Array Value) (t : TypeId) (hg : w.heap[g]? = some (.cells cur t (0, 0))) (k : IntKind) (ys : List Int) (hr : RdI w k A ys) (hm : ys.length = m) (hle : m ≤ dLen) (hfit : off + m ≤ cur.size)
    (h : wpList P ops Q rest (a.put o.dst (goInt m)) (w.setRow g (cur.toList.take off ++ (ys.map (Value.int k) ++ cur.toList.drop (off + m))).toArray)) : wpList P ops Q (o :: rest) a w := by
  by_cases h0 : m = 0
  · subst h0
    have : ys = [] := List.eq_nil_of_length_eq_zero hm
    subst this
    refine wpList_copy_nothing hgd d s dT sT ho elem hu hsz _ _ dLen dCap 0 sCap hd hs (by simp) ?_
    simp only [List.map_nil, List.nil_append, Nat.add_zero, List.take_append_drop] at h
    rw [setRow_self w g cur t _ hg] at h
    exact h
  · obtain ⟨b, o', rfl, hc⟩ := hr.at_ (by omega)
    refine wpList_copy_own hgd d s dT sT ho elem hu hsz g off dLen dCap ⟨b, o', none⟩ m sCap hd hs cur t hg (ys.map (Value.int k)) (by simp only [List.length_map, hm]; exact (Nat.min_eq_left hle).symm) (news_of0 hc) (by simp [hm]; exact hfit) (ints_oneCell k ys) ?_
    simp only [List.length_map, hm]
    exact h
theorem news_of {w : World} {k : IntKind} {b o : Nat} {ys : List Int} (hcell : ∀ j, j < ys.length → w.cell? ⟨b, o + j, none⟩ = some (.int k (nth ys j))) :
    ∀ j u, (ys.map (Value.int k))[j]? = some u → w.cell? ((⟨b, o, none⟩ : Addr).add j) = some u := by
  intro j u hu
  have hj : j < ys.length := by simpa using (List.getElem?_eq_some_iff.1 hu).1
  rw [addr_add, hcell j hj]
  rw [List.getElem?_map, nth_lt hj] at hu
  exact hu
end
end Go.Proofs.YtmaedahleenlgaaDoor

/- Plain: the four bytes of a number, the number of four bytes, what is wrapped, what is unwrapped (layer 4). No condition. -/
set_option linter.unusedVariables false
set_option linter.unusedSimpArgs false
namespace Go.Proofs.YtmaedahleenlgaaDoor
open Go Go.RowKit

/-- All are bytes. -/
def Byt (xs : List Int) : Prop := ∀ x ∈ xs, 0 ≤ x ∧ x ≤ 255
theorem Byt.nth {xs : List Int} (h : Byt xs) (j : Nat) : 0 ≤ nth xs j ∧ nth xs j ≤ 255 := by
  by_cases hj : j < xs.length
  · exact h _ (nth_mem hj)
  · simp [Go.Proofs.YtmaedahleenlgaaDoor.nth, List.getElem?_eq_none (show xs.length ≤ j by omega)]
theorem Byt.append {xs ys : List Int} (h : Byt xs) (k : Byt ys) : Byt (xs ++ ys) := fun x hx => by
  rcases List.mem_append.1 hx with hx | hx
  · exact h x hx
  · exact k x hx
theorem Byt.drop {xs : List Int} (h : Byt xs) (n : Nat) : Byt (xs.drop n) := fun x hx => h x (List.mem_of_mem_drop hx)
theorem Byt.take {xs : List Int} (h : Byt xs) (n : Nat) : Byt (xs.take n) := fun x hx => h x (List.mem_of_mem_take hx)

def numB (h : Int) : List Int := if 1 ≤ h ∧ h ≤ 65536 then [0, h / 65536, h / 256 % 256, h % 256] else []
theorem numB_yes {h : Int} (h0 : 1 ≤ h) (h1 : h ≤ 65536) : numB h = [0, h / 65536, h / 256 % 256, h % 256] := if_pos ⟨h0, h1⟩
theorem numB_no {h : Int} (h0 : ¬(1 ≤ h ∧ h ≤ 65536)) : numB h = [] := if_neg h0
theorem numB_byt (h : Int) : Byt (numB h) := by
  unfold numB
  split
  · intro x hx
    simp at hx
    omega
  · intro x hx; simp at hx

def be4 (b : List Int) : Int := nth b 0 * 16777216 + nth b 1 * 65536 + nth b 2 * 256 + nth b 3
def numOf (b : List Int) : Int := if b.length = 4 ∧ 1 ≤ be4 b ∧ be4 b ≤ 65536 then be4 b else 0
theorem numOf_len {b : List Int} (h : b.length ≠ 4) : numOf b = 0 := if_neg (fun x => h x.1)
theorem numOf_range (b : List Int) : 0 ≤ numOf b ∧ numOf b ≤ 65536 := by unfold numOf; split <;> omega

def wrapB (h n : Int) : List Int := if (1 ≤ h ∧ h ≤ 65536) ∧ 0 ≤ n ∧ n ≤ 1200 then numB h ++ List.replicate (n + 12).toNat 0 else []

/-- Number, length, ok. -/
def unwrap (b : List Int) : Int × Int × Bool :=
  if 16 ≤ b.length ∧ b.length ≤ 1216 ∧ numOf (b.take 4) ≠ 0 ∧ (∀ x ∈ b.drop 4, x = 0) then (numOf (b.take 4), (b.length : Int) - 16, true) else (0, 0, false)

theorem numOf_numB {h : Int} (h0 : 1 ≤ h) (h1 : h ≤ 65536) : numOf (numB h) = h := by
  rw [numB_yes h0 h1]
  simp [numOf, be4, nth]
  omega
theorem wrap_take {h n : Int} (k : (1 ≤ h ∧ h ≤ 65536) ∧ 0 ≤ n ∧ n ≤ 1200) : (wrapB h n).take 4 = numB h := by
  unfold wrapB
  rw [if_pos k, numB_yes k.1.1 k.1.2]
  rfl
theorem wrap_drop {h n : Int} (k : (1 ≤ h ∧ h ≤ 65536) ∧ 0 ≤ n ∧ n ≤ 1200) : (wrapB h n).drop 4 = List.replicate (n + 12).toNat 0 := by
  unfold wrapB
  rw [if_pos k, numB_yes k.1.1 k.1.2]
  rfl
theorem wrap_len {h n : Int} (k : (1 ≤ h ∧ h ≤ 65536) ∧ 0 ≤ n ∧ n ≤ 1200) : (wrapB h n).length = n.toNat + 16 := by
  unfold wrapB
  rw [if_pos k, numB_yes k.1.1 k.1.2]
  simp
  omega
theorem wrap_byt (h n : Int) : Byt (wrapB h n) := by
  unfold wrapB
  split
  · exact (numB_byt h).append fun x hx => by rw [List.eq_of_mem_replicate hx]; decide
  · intro x hx; simp at hx
theorem unwrap_wrap {h n : Int} (k : (1 ≤ h ∧ h ≤ 65536) ∧ 0 ≤ n ∧ n ≤ 1200) : unwrap (wrapB h n) = (h, n, true) := by
  unfold unwrap
  rw [wrap_take k, wrap_drop k, wrap_len k, numOf_numB k.1.1 k.1.2, if_pos ⟨by omega, by omega, by omega, fun x hx => List.eq_of_mem_replicate hx⟩]
  simp
  omega
theorem unwrap_spoilt {h n : Int} (k : (1 ≤ h ∧ h ≤ 65536) ∧ 0 ≤ n ∧ n ≤ 1200) {j : Nat} (h4 : 4 ≤ j) (hj : j < n.toNat + 16) : (unwrap ((wrapB h n).set j 1)).2.2 = false := by
  unfold unwrap
  rw [if_neg]
  intro hh
  have hl := wrap_len k
  have e : (((wrapB h n).set j 1).drop 4)[j - 4]? = some 1 := by
    rw [List.getElem?_drop, show 4 + (j - 4) = j from by omega, List.getElem?_set_self (by omega)]
  have := hh.2.2.2 1 (List.mem_of_getElem? e)
  omega
theorem unwrap_short {h n : Int} (k : (1 ≤ h ∧ h ≤ 65536) ∧ 0 ≤ n ∧ n ≤ 1200) : unwrap ((wrapB h n).take (n.toNat + 15)) = if 0 < n then (h, n - 1, true) else (0, 0, false) := by
  unfold unwrap
  rw [List.take_take, show min 4 (n.toNat + 15) = 4 from by omega, wrap_take k, List.drop_take, wrap_drop k, List.length_take, wrap_len k, numOf_numB k.1.1 k.1.2]
  by_cases h0 : 0 < n
  · rw [if_pos h0, if_pos ⟨by omega, by omega, by omega, fun x hx => List.eq_of_mem_replicate (List.mem_of_mem_take hx)⟩]
    simp
    omega
  · rw [if_neg h0, if_neg (by omega)]
end Go.Proofs.YtmaedahleenlgaaDoor

/- How arguments that read as data stand in memory. No condition. -/
set_option linter.unusedVariables false
set_option linter.unusedSimpArgs false
namespace Go.Proofs.YtmaedahleenlgaaDoor
open Go Go.RowKit Go.ChangeShapes Go.WideShapes Go.ChangeAt
open Go.ChangeMaps (open_string shut_string)

theorem row_own : ownKnob Tryd.prog.godebug = none := by kernel_rfl
theorem row_laidOut : laidOutB Tryd.prog = true := by kernel_rfl

theorem wf_u8 {x : Int} (h : (Lit.int .u8 x).wf = true) : 0 ≤ x ∧ x ≤ 255 := by
  exact bounds_u8 h

/-- A []byte argument. -/
theorem open_bytes {H : Type} {enc : TypeId × Value → H} {w : World} {base : Nat} {a : Option Addr} {len cap : Nat} {d : DataW H} {p : List MemPlace}
    (h : DataW.Trod enc Tryd.prog w base (fun _ => true) true 22 (.slice a len cap) d p) : ∃ xs, Rds w.heap.size w .u8 a len cap xs ∧ Byt xs := by
  obtain ⟨fuel, hf⟩ := h
  rcases open_ints Tryd.underlying22 Tryd.underlying5 (by kernel_rfl) hf with ⟨hcs, _⟩ | ⟨x, l, c, zs, hcs, _, hl, hm, hz, _, hcell, hwz⟩
  · simp [Value.cells] at hcs
    obtain ⟨rfl, rfl, rfl⟩ := hcs
    exact ⟨[], Rds.nil _ _ _, fun x hx => by simp at hx⟩
  · simp [Value.cells] at hcs
    obtain ⟨rfl, rfl, rfl⟩ := hcs
    have hz' : zs.length = cap := by simpa using hz
    have hn : ∀ j, j < len → nth (zs.take len) j = zs.getD j 0 := fun j hj => by rw [nth_take hj]; rfl
    refine ⟨zs.take len, ⟨by simp; omega, hl, by simpa only [maxLen] using hm, fun j hj => ?_, fun p a e => ?_⟩, fun y hy => wf_u8 (hwz y (List.mem_of_mem_take hy))⟩
    · have hj' : j < len := by simp at hj; omega
      refine ⟨_, rfl, ?_⟩
      rw [hn j hj']
      exact hcell j (by omega)
    · cases e
      have h0 := hcell 0 (by omega)
      have := World.block_lt_of_cell? _ _ h0
      rw [add_block] at this
      exact ⟨this, .inl this⟩
end Go.Proofs.YtmaedahleenlgaaDoor

/- The program's own numbers for the library of rows: appends of bytes, of ints, of terms. No condition. -/
set_option linter.unusedVariables false
namespace Go.Proofs.YtmaedahleenlgaaDoor
open Go Go.RowKit

theorem info_u8 : (Tryd.prog.info? 5).map (fun i => (i.zero, i.size, i.bytes)) = some (some (.int .u8 0), 1, 1) := by kernel_rfl
theorem sp_u8 : spT 5 = false := by decide
theorem info_int : (Tryd.prog.info? 3).map (fun i => (i.zero, i.size, i.bytes)) = some (some (.int .i64 0), 1, 8) := by kernel_rfl
theorem sp_int : spT 3 = false := by decide
theorem info_term : (Tryd.prog.info? 29).map (fun i => (i.zero, i.size, i.bytes)) = some (some (.int .i64 0), 1, 8) := by kernel_rfl
theorem sp_term : spT 29 = false := by decide

/-- append(s, x...) of bytes. -/
theorem wp_app_u8 {w : World} {ops : Array Oper} {rest : List Oper} {o : Oper} {a : Act} {Q : Exit → Act → World → Prop} (hgd : o.guard = none) (s x : Operand)
    (ho : o.op = .call { callee := .builtin .append, args := #[s, x], argTypes := #[22, 22] })
    {B : Nat} {v : Value} {xs ys : List Int} {A : Option Addr} {m c : Nat} (hv : a.eval s = v) (hx : a.eval x = .slice A m c) (hown : OwnI w B .u8 v xs) (hr : RdI w .u8 A ys) (hm : ys.length = m) (hB : B ≤ w.heap.size) (hbytes : xs.length + m ≤ 140737488355328)
    (h : ∀ v' w', OwnI w' B .u8 v' (xs ++ ys) → w.grownBy w' v.ownBlock → Below B w w' → wpList Tryd.prog ops Q rest (a.put o.dst v') w') : wpList Tryd.prog ops Q (o :: rest) a w := by
  obtain ⟨i, hi, hz0, hz1, hz2⟩ := info_parts info_u8
  exact wp_app hgd s x 22 5 i (.int .u8 0) .u8 1 ho Tryd.underlying22 hi hz0 hz1 hz2 rfl sp_u8 hv hx hown hr hm hB (by omega) (by omega) h
theorem wp_app_int {w : World} {ops : Array Oper} {rest : List Oper} {o : Oper} {a : Act} {Q : Exit → Act → World → Prop} (hgd : o.guard = none) (s x : Operand)
    (ho : o.op = .call { callee := .builtin .append, args := #[s, x], argTypes := #[101, 101] })
    {B : Nat} {v : Value} {xs ys : List Int} {A : Option Addr} {m c : Nat} (hv : a.eval s = v) (hx : a.eval x = .slice A m c) (hown : OwnI w B .i64 v xs) (hr : RdI w .i64 A ys) (hm : ys.length = m) (hB : B ≤ w.heap.size) (hbytes : (xs.length + m) * 8 ≤ 140737488355328)
    (h : ∀ v' w', OwnI w' B .i64 v' (xs ++ ys) → w.grownBy w' v.ownBlock → Below B w w' → wpList Tryd.prog ops Q rest (a.put o.dst v') w') : wpList Tryd.prog ops Q (o :: rest) a w := by
  obtain ⟨i, hi, hz0, hz1, hz2⟩ := info_parts info_int
  exact wp_app hgd s x 101 3 i (.int .i64 0) .i64 8 ho Tryd.underlying101 hi hz0 hz1 hz2 rfl sp_int hv hx hown hr hm hB hbytes (by omega) h
theorem wp_app_term {w : World} {ops : Array Oper} {rest : List Oper} {o : Oper} {a : Act} {Q : Exit → Act → World → Prop} (hgd : o.guard = none) (s x : Operand)
    (ho : o.op = .call { callee := .builtin .append, args := #[s, x], argTypes := #[38, 38] })
    {B : Nat} {v : Value} {xs ys : List Int} {A : Option Addr} {m c : Nat} (hv : a.eval s = v) (hx : a.eval x = .slice A m c) (hown : OwnI w B .i64 v xs) (hr : RdI w .i64 A ys) (hm : ys.length = m) (hB : B ≤ w.heap.size) (hbytes : (xs.length + m) * 8 ≤ 140737488355328)
    (h : ∀ v' w', OwnI w' B .i64 v' (xs ++ ys) → w.grownBy w' v.ownBlock → Below B w w' → wpList Tryd.prog ops Q rest (a.put o.dst v') w') : wpList Tryd.prog ops Q (o :: rest) a w := by
  obtain ⟨i, hi, hz0, hz1, hz2⟩ := info_parts info_term
  exact wp_app hgd s x 38 29 i (.int .i64 0) .i64 8 ho Tryd.underlying38 hi hz0 hz1 hz2 rfl sp_term hv hx hown hr hm hB hbytes (by omega) h
/-- append(s, make([]byte, m)...). -/
theorem wp_app_u8_zeros {w : World} {ops : Array Oper} {rest : List Oper} {o : Oper} {a : Act} {Q : Exit → Act → World → Prop} (hgd : o.guard = none) (s x : Operand)
    (ho : o.op = .call { callee := .builtin .append, args := #[s, x], argTypes := #[22, 3] })
    {B : Nat} {v : Value} {xs : List Int} {m : Nat} {M : Int} (hv : a.eval s = v) (hx : a.eval x = .int .i64 M) (hM : M = (m : Int)) (hown : OwnI w B .u8 v xs) (h0 : 0 < m) (hB : B ≤ w.heap.size) (hbytes : xs.length + m ≤ 140737488355328)
    (h : ∀ v' w', OwnI w' B .u8 v' (xs ++ List.replicate m 0) → w.grownBy w' v.ownBlock → Below B w w' → wpList Tryd.prog ops Q rest (a.put o.dst v') w') : wpList Tryd.prog ops Q (o :: rest) a w := by
  obtain ⟨i, hi, hz0, hz1, hz2⟩ := info_parts info_u8
  subst hM
  obtain ⟨v', w', hrun, h1, h2, h3⟩ := run_app_zeros (P := Tryd.prog) (w := w) 22 3 o.type 5 i .u8 .i64 .i64 1 Tryd.underlying22 Tryd.underlying3 hi hz0 hz1 hz2 sp_u8 hown h0 hB (by omega) (by omega)
  exact wp_app_run hgd s x _ _ ho hv hx hrun (h v' w' h1 h2 h3)
end Go.Proofs.YtmaedahleenlgaaDoor

/- Plain: a table of terms (layer 2), as a list. No condition. -/
set_option linter.unusedVariables false
set_option linter.unusedSimpArgs false
namespace Go.Proofs.YtmaedahleenlgaaDoor
open Go Go.RowKit

/-- A term: its kind, its text, its parts. -/
structure Nd where
  kind : Int
  text : ByteArray
  parts : List Int
  deriving DecidableEq

/-- The number of a term that is there (from 0 on). -/
def lookT (T : List Nd) (n : Nd) : Option Nat := T.findIdx? (fun m => decide (m = n))
def addT (T : List Nd) (n : Nd) : List Nd × Int :=
  match (if n.kind = 2 then none else lookT T n) with
  | some i => (T, (i : Int) + 1)
  | none => if T.length = 65536 then (T, 0) else (T ++ [n], (T.length : Int) + 1)
def textT (T : List Nd) (b : ByteArray) : List Nd × Int := if b.size ≤ 2048 then addT T ⟨1, b, []⟩ else (T, 0)
def secretT (T : List Nd) : List Nd × Int := addT T ⟨2, ByteArray.empty, []⟩
/-- The term of a number. -/
def getT (T : List Nd) (h : Int) : Option Nd := if 1 ≤ h then T[(h - 1).toNat]? else none
def kindT (T : List Nd) (h : Int) : Int := match getT T h with | some n => n.kind | none => 0
def sort2 (a b : Int) : List Int := if b < a then [b, a] else [a, b]
/-- Have parts of these kinds a form? -/
def formedT (kind : Int) (l : List Int) : Bool :=
  if kind = 3 then decide (l.length ≤ 16)
  else if kind = 4 then decide (l.length = 1)
  else if kind = 5 then decide (l.length = 2)
  else if kind = 6 ∨ kind = 10 then decide (l.length = 3 ∧ nth l 1 = 1)
  else if kind = 7 then decide (l.length = 1 ∧ nth l 0 = 2)
  else if kind = 8 then decide (l.length = 2 ∧ nth l 0 = 2 ∧ nth l 1 = 7)
  else if kind = 9 then decide (l.length = 2 ∧ nth l 0 = 2)
  else false
/-- The parts as they stand in the table. -/
def ownT (T : List Nd) (kind : Int) (parts : List Int) : List Int :=
  if kind = 8 then (match getT T (nth parts 1) with | some p => sort2 (nth parts 0) (nth p.parts 0) | none => parts) else parts
def makeT (T : List Nd) (kind : Int) (parts : List Int) : List Nd × Int :=
  if (0 : Int) ∈ parts.map (kindT T) ∨ formedT kind (parts.map (kindT T)) = false then (T, 0) else addT T ⟨kind, ByteArray.empty, ownT T kind parts⟩

/-- What stands in a table. -/
structure GoodN (i : Nat) (T : List Nd) (n : Nd) : Prop where
  kind : 1 ≤ n.kind ∧ n.kind ≤ 10
  text : n.text.size ≤ 2048
  many : n.parts.length ≤ 16
  range : ∀ p ∈ n.parts, 1 ≤ p ∧ p ≤ i
  k1 : n.kind = 1 → n.parts = []
  k2 : n.kind = 2 → n.parts = [] ∧ n.text = ByteArray.empty
  k3 : n.kind ≠ 1 → n.text = ByteArray.empty
  k4 : n.kind = 4 → n.parts.length = 1
  k5 : n.kind = 5 → n.parts.length = 2
  k6 : n.kind = 6 ∨ n.kind = 10 → n.parts.length = 3 ∧ kindT T (nth n.parts 1) = 1
  k7 : n.kind = 7 → n.parts.length = 1 ∧ kindT T (nth n.parts 0) = 2
  k8 : n.kind = 8 → n.parts.length = 2 ∧ kindT T (nth n.parts 0) = 2 ∧ kindT T (nth n.parts 1) = 2 ∧ nth n.parts 0 ≤ nth n.parts 1
  k9 : n.kind = 9 → n.parts.length = 2 ∧ kindT T (nth n.parts 0) = 2
structure WfT (T : List Nd) : Prop where
  len : T.length ≤ 65536
  good : ∀ (i : Nat) (n : Nd), T[i]? = some n → GoodN i T n
  uniq : ∀ (i j : Nat) (n : Nd), T[i]? = some n → T[j]? = some n → n.kind ≠ 2 → i = j

theorem lookT_some {T : List Nd} {n : Nd} {i : Nat} (h : lookT T n = some i) : T[i]? = some n := by
  unfold lookT at h
  have := List.findIdx?_eq_some_iff_getElem.1 h
  obtain ⟨hl, hp, _⟩ := this
  simp at hp
  rw [List.getElem?_eq_getElem hl, hp]
theorem lookT_none {T : List Nd} {n : Nd} (h : lookT T n = none) : ∀ i : Nat, T[i]? ≠ some n := by
  intro i hi
  unfold lookT at h
  have := List.findIdx?_eq_none_iff.1 h n (List.mem_of_getElem? hi)
  simp at this
theorem lookT_of {T : List Nd} (hw : WfT T) {n : Nd} {i : Nat} (h : T[i]? = some n) (hk : n.kind ≠ 2) : lookT T n = some i := by
  cases hl : lookT T n with
  | none => exact absurd h (lookT_none hl i)
  | some j => rw [hw.uniq j i n (lookT_some hl) h hk]

theorem getT_nat {T : List Nd} (i : Nat) : getT T ((i : Int) + 1) = T[i]? := by
  unfold getT
  rw [if_pos (by omega)]
  congr 1
  omega
theorem getT_range {T : List Nd} {h : Int} {n : Nd} (e : getT T h = some n) : 1 ≤ h ∧ h ≤ T.length := by
  unfold getT at e
  split at e
  · have := (List.getElem?_eq_some_iff.1 e).1
    omega
  · cases e
theorem getT_some {T : List Nd} {h : Int} (h0 : 1 ≤ h) (h1 : h ≤ T.length) : ∃ n, getT T h = some n := by
  unfold getT
  rw [if_pos h0]
  exact ⟨_, List.getElem?_eq_getElem (by omega)⟩
theorem getT_none {T : List Nd} {h : Int} (k : ¬(1 ≤ h ∧ h ≤ T.length)) : getT T h = none := by
  unfold getT
  split
  · exact List.getElem?_eq_none (by omega)
  · rfl
theorem getT_mono {T T' : List Nd} {h : Int} {n : Nd} (e : getT T h = some n) : getT (T ++ T') h = some n := by
  have hr := getT_range e
  unfold getT at e ⊢
  rw [if_pos hr.1] at e ⊢
  rw [List.getElem?_append_left (by omega), e]
theorem kindT_mono {T T' : List Nd} {h : Int} {k : Int} (e : kindT T h = k) (hk : k ≠ 0) : kindT (T ++ T') h = k := by
  unfold kindT at e ⊢
  cases hg : getT T h with
  | none => rw [hg] at e; exact absurd e.symm hk
  | some n => rw [hg] at e; rw [getT_mono hg]; exact e
theorem kindT_range {T : List Nd} {h : Int} (e : kindT T h ≠ 0) : 1 ≤ h ∧ h ≤ T.length := by
  unfold kindT at e
  cases hg : getT T h with
  | none => rw [hg] at e; exact absurd rfl e
  | some n => exact getT_range hg
theorem WfT.kind {T : List Nd} (hw : WfT T) {h : Int} (h0 : 1 ≤ h) (h1 : h ≤ T.length) : 1 ≤ kindT T h ∧ kindT T h ≤ 10 := by
  obtain ⟨n, e⟩ := getT_some h0 h1
  unfold kindT
  rw [e]
  unfold getT at e
  rw [if_pos h0] at e
  exact (hw.good _ _ e).kind
theorem WfT.get {T : List Nd} (hw : WfT T) {h : Int} {n : Nd} (e : getT T h = some n) : GoodN (h - 1).toNat T n := by
  have hr := getT_range e
  unfold getT at e
  rw [if_pos hr.1] at e
  exact hw.good _ _ e
theorem kindT_get {T : List Nd} {h : Int} {n : Nd} (e : getT T h = some n) : kindT T h = n.kind := by unfold kindT; rw [e]

theorem GoodN.mono {i : Nat} {T T' : List Nd} {n : Nd} (h : GoodN i T n) : GoodN i (T ++ T') n :=
  ⟨h.kind, h.text, h.many, h.range, h.k1, h.k2, h.k3, h.k4, h.k5, fun k => ⟨(h.k6 k).1, kindT_mono (h.k6 k).2 (by decide)⟩, fun k => ⟨(h.k7 k).1, kindT_mono (h.k7 k).2 (by decide)⟩,
    fun k => ⟨(h.k8 k).1, kindT_mono (h.k8 k).2.1 (by decide), kindT_mono (h.k8 k).2.2.1 (by decide), (h.k8 k).2.2.2⟩, fun k => ⟨(h.k9 k).1, kindT_mono (h.k9 k).2 (by decide)⟩⟩

theorem wfT_nil : WfT [] := ⟨by simp, fun i n h => by simp at h, fun i j n h => by simp at h⟩
theorem wfT_snoc {T : List Nd} (hw : WfT T) {n : Nd} (hn : GoodN T.length T n) (hl : T.length < 65536) (hu : n.kind ≠ 2 → ∀ i : Nat, T[i]? ≠ some n) : WfT (T ++ [n]) := by
  refine ⟨by simp; omega, fun i m h => ?_, fun i j m h h' hk => ?_⟩
  · rw [List.getElem?_append] at h
    split at h
    · exact (hw.good i m h).mono
    · have : i = T.length := by
        rcases Nat.lt_or_ge (i - T.length) 1 with h1 | h1
        · omega
        · rw [List.getElem?_eq_none (by simpa using h1)] at h; cases h
      subst this
      simp at h
      subst h
      exact hn.mono
  · rw [List.getElem?_append] at h h'
    split at h <;> split at h'
    · exact hw.uniq i j m h h' hk
    · have : m = n := by
        rcases Nat.lt_or_ge (j - T.length) 1 with h1 | h1
        · have : j - T.length = 0 := by omega
          rw [this] at h'; simpa using h'.symm
        · rw [List.getElem?_eq_none (by simpa using h1)] at h'; cases h'
      subst this
      exact absurd h (hu hk i)
    · have : m = n := by
        rcases Nat.lt_or_ge (i - T.length) 1 with h1 | h1
        · have : i - T.length = 0 := by omega
          rw [this] at h; simpa using h.symm
        · rw [List.getElem?_eq_none (by simpa using h1)] at h; cases h
      subst this
      exact absurd h' (hu hk j)
    · rcases Nat.lt_or_ge (i - T.length) 1 with h1 | h1
      · rcases Nat.lt_or_ge (j - T.length) 1 with h2 | h2
        · omega
        · rw [List.getElem?_eq_none (by simpa using h2)] at h'; cases h'
      · rw [List.getElem?_eq_none (by simpa using h1)] at h; cases h
theorem wfT_add {T : List Nd} (hw : WfT T) {n : Nd} (hn : GoodN T.length T n) : WfT (addT T n).1 := by
  unfold addT
  split
  · exact hw
  · rename_i he
    split
    · exact hw
    · rename_i hl
      refine wfT_snoc hw hn (by have := hw.len; omega) fun hk => ?_
      rw [if_neg hk] at he
      exact lookT_none he
end Go.Proofs.YtmaedahleenlgaaDoor

/- The map of a table: its keys, what is found, what is put. No condition. -/
set_option linter.unusedVariables false
set_option linter.unusedSimpArgs false
namespace Go.Proofs.YtmaedahleenlgaaDoor
open Go Go.RowKit Go.WideMaps

theorem key_laid : laidOutB Tryd.prog = true := by kernel_rfl
theorem key_law : KeyLaw Tryd.prog 94 := deep_law_laid key_laid (m := 4) (by omega) (of_decide_eq_true (by kernel_rfl)) (by kernel_rfl) (by rw [Tryd.underlying94])
theorem key_deep : Tryd.prog.keyType 94 = true := by kernel_rfl
theorem cells_key : Tryd.prog.cellsOf 94 = 19 := by kernel_rfl
theorem cells_parts : Tryd.prog.cellsOf 92 = 16 := by kernel_rfl
theorem cells_int : Tryd.prog.cellsOf 3 = 1 := by kernel_rfl
theorem cells_string : Tryd.prog.cellsOf 9 = 1 := by kernel_rfl
theorem cells_term : Tryd.prog.cellsOf 29 = 1 := by kernel_rfl
theorem types_pos : ∃ m, Tryd.prog.types.size + 1 = m + 3 := ⟨Tryd.prog.types.size - 2, by have : 2 ≤ Tryd.prog.types.size := of_decide_eq_true (by kernel_rfl); omega⟩

theorem wf_small' : ∀ n, n < 17 → (Lit.int .i64 ((n : Nat) : Int)).wf = true := by decide
theorem wf_small (n : Nat) (h : n ≤ 16) : (Lit.int .i64 (n : Int)).wf = true := wf_small' n (by omega)
/-- A term's parts, filled up to sixteen. -/
def padP (ps : List Int) : List Int := ps ++ List.replicate (16 - ps.length) 0
theorem padP_length {ps : List Int} (h : ps.length ≤ 16) : (padP ps).length = 16 := by simp [padP]; omega
theorem padP_inj {ps qs : List Int} (hl : ps.length = qs.length) (h : padP ps = padP qs) : ps = qs := by
  unfold padP at h
  exact (List.append_inj h hl).1
/-- A term's key. -/
def keyV (n : Nd) : Value := .agg ((Value.int .i64 n.kind :: .string n.text :: .int .i64 n.parts.length :: (padP n.parts).map (Value.int .i64)).toArray)
theorem keyV_inj {n m : Nd} (h : keyV n = keyV m) : n = m := by
  unfold keyV at h
  injection h with h
  have h := congrArg Array.toList h
  simp only [List.cons.injEq, Value.int.injEq, true_and, Value.string.injEq] at h
  obtain ⟨h1, h2, h3, h4⟩ := h
  have h5 : padP n.parts = padP m.parts := by
    have h7 := congrArg (List.map intOf) h4
    simpa [List.map_map, Function.comp_def, intOf] using h7
  have h6 := padP_inj (by omega) h5
  cases n; cases m; simp_all

theorem mapM_isSome {α β : Type} (f : α → Option β) : ∀ l : List α, (∀ x ∈ l, (f x).isSome = true) → (l.mapM f).isSome = true
  | [], _ => by simp
  | a :: l, h => by
    obtain ⟨b, hb⟩ := Option.isSome_iff_exists.1 (h a (by simp))
    obtain ⟨c, hc⟩ := Option.isSome_iff_exists.1 (mapM_isSome f l fun x hx => h x (by simp [hx]))
    simp [List.mapM_cons, hb, hc]
theorem keyLits_int (d : Nat) {n : Int} (h : (Lit.int .i64 n).wf = true) : (Tryd.prog.keyLits (d + 1) 3 [.int .i64 n]).isSome = true := by
  simp [Program.keyLits, Tryd.underlying3, h]
theorem keyLits_term (d : Nat) {n : Int} (h : (Lit.int .i64 n).wf = true) : (Tryd.prog.keyLits (d + 1) 29 [.int .i64 n]).isSome = true := by
  simp [Program.keyLits, Tryd.underlying29, h]
theorem keyLits_string (d : Nat) {s : ByteArray} (h : s.size ≤ maxLen) : (Tryd.prog.keyLits (d + 1) 9 [.string s]).isSome = true := by
  simp [Program.keyLits, Tryd.underlying9, h]
theorem keyLits_parts (d : Nat) {ps : List Int} (hl : ps.length = 16) (h : ∀ p ∈ ps, (Lit.int .i64 p).wf = true) : (Tryd.prog.keyLits (d + 2) 92 (ps.map (Value.int .i64))).isSome = true := by
  unfold Program.keyLits
  simp only [Tryd.underlying92, cells_parts, List.length_map, hl, if_true, Option.isSome_map, cells_term, Nat.mul_one]
  refine mapM_isSome _ _ fun i hi => ?_
  have hi' : i < 16 := by simpa using hi
  have e : ((ps.map (Value.int .i64)).drop i).take 1 = [.int .i64 (nth ps i)] := by
    rw [List.take_one, List.head?_drop, List.getElem?_map, nth_lt (by omega)]; rfl
  rw [e]
  exact keyLits_term d (h _ (nth_mem (by omega)))

structure KeyOk (n : Nd) : Prop where
  kind : (Lit.int .i64 n.kind).wf = true
  text : n.text.size ≤ maxLen
  many : n.parts.length ≤ 16
  parts : ∀ p ∈ n.parts, (Lit.int .i64 p).wf = true
theorem key_some {n : Nd} (h : KeyOk n) : ∃ l, keyOf Tryd.prog 94 (keyV n) = some l := by
  apply Option.isSome_iff_exists.1
  have hp := padP_length h.many
  have hw : ∀ p ∈ padP n.parts, (Lit.int .i64 p).wf = true := by
    intro p hp
    rcases List.mem_append.1 hp with hp | hp
    · exact h.parts p hp
    · rw [List.eq_of_mem_replicate hp]; decide
  have hlen : (keyV n).cells.toList.length = 19 := by simp [keyV, Value.cells, hp]
  have hform : (keyV n).formed Tryd.prog 94 = true := by
    simp [keyV, Value.formed, Tryd.underlying94, cells_key, hp]
  obtain ⟨m, hm⟩ := types_pos
  unfold keyOf
  rw [Tryd.underlying94]
  simp only [key_deep, hform, Bool.and_self, if_true, Option.isSome_map]
  rw [hm]
  unfold Program.keyLits
  rw [Tryd.underlying94]
  simp only [hlen, cells_key]
  simp only [List.all_toArray, List.all_cons, List.all_nil, Bool.and_true]
  rw [if_pos ⟨by trivial, by decide⟩]
  simp only [Option.isSome_map]
  have hmany : (Lit.int .i64 (n.parts.length : Int)).wf = true := by
    have := h.many
    exact wf_small _ this
  refine mapM_isSome _ _ fun f hf => ?_
  simp only [List.mem_cons, List.not_mem_nil, or_false] at hf
  rcases hf with rfl | rfl | rfl | rfl
  · simpa [keyV, Value.cells, cells_int] using keyLits_int (m + 1) h.kind
  · simpa [keyV, Value.cells, cells_string] using keyLits_string (m + 1) h.text
  · simpa [keyV, Value.cells, cells_int] using keyLits_int (m + 1) hmany
  · have := keyLits_parts m hp hw
    simpa [keyV, Value.cells, cells_parts, List.take_of_length_le, hp] using this
end Go.Proofs.YtmaedahleenlgaaDoor

/- A table of terms in memory; what the map at its side answers. No condition. -/
set_option linter.unusedVariables false
set_option linter.unusedSimpArgs false
namespace Go.Proofs.YtmaedahleenlgaaDoor
open Go Go.RowKit Go.WideMaps

theorem wf_of {x : Int} (h0 : -9223372036854775808 ≤ x) (h1 : x ≤ 9223372036854775807) : (Lit.int .i64 x).wf = true := by
  have := @wrap64_wf x
  rwa [show wrap64 x = x from by unfold wrap64; omega] at this
theorem GoodN.key {i : Nat} {T : List Nd} {n : Nd} (h : GoodN i T n) (hi : i ≤ 65536) : KeyOk n :=
  ⟨wf_of (by have := h.kind; omega) (by have := h.kind; omega), by have := h.text; simp only [maxLen]; omega, h.many, fun p hp => wf_of (by have := h.range p hp; omega) (by have := h.range p hp; omega)⟩

/-- The entries are those of the terms that are no secrets. -/
structure MapOk (T : List Nd) (es : List MapEntry) : Prop where
  sound : ∀ e ∈ es, ∃ (i : Nat) (n : Nd), T[i]? = some n ∧ n.kind ≠ 2 ∧ e.key = keyV n ∧ e.val = .int .i64 ((i : Int) + 1)
  full : ∀ (i : Nat) (n : Nd), T[i]? = some n → n.kind ≠ 2 → ∃ e ∈ es, e.key = keyV n
theorem mapOk_nil : MapOk [] [] := ⟨fun e he => by simp at he, fun i n h => by simp at h⟩
theorem MapOk.snoc {T : List Nd} {es : List MapEntry} (h : MapOk T es) (n : Nd) (c : Nat) : MapOk (T ++ [n]) (if n.kind = 2 then es else es ++ [⟨keyV n, .int .i64 ((T.length : Int) + 1), c⟩]) := by
  have old : ∀ (i : Nat) (m : Nd), T[i]? = some m → (T ++ [n])[i]? = some m := fun i m hm => by
    rw [List.getElem?_append_left (List.getElem?_eq_some_iff.1 hm).1, hm]
  split
  · rename_i hk
    refine ⟨fun e he => ?_, fun i m hm hk' => ?_⟩
    · obtain ⟨i, m, h1, h2⟩ := h.sound e he
      exact ⟨i, m, old i m h1, h2⟩
    · rw [List.getElem?_append] at hm
      split at hm
      · exact h.full i m hm hk'
      · have := List.mem_of_getElem? hm
        simp at this
        subst this
        exact absurd hk hk'
  · rename_i hk
    refine ⟨fun e he => ?_, fun i m hm hk' => ?_⟩
    · rcases List.mem_append.1 he with he | he
      · obtain ⟨i, m, h1, h2⟩ := h.sound e he
        exact ⟨i, m, old i m h1, h2⟩
      · simp at he
        subst he
        exact ⟨T.length, n, by simp, hk, rfl, rfl⟩
    · rw [List.getElem?_append] at hm
      split at hm
      · obtain ⟨e, he, hkey⟩ := h.full i m hm hk'
        exact ⟨e, List.mem_append_left _ he, hkey⟩
      · have := List.mem_of_getElem? hm
        simp at this
        subst this
        exact ⟨⟨keyV m, .int .i64 ((T.length : Int) + 1), c⟩, List.mem_append_right _ (by simp), rfl⟩

/-- What a look-up answers. -/
def foundT (T : List Nd) (n : Nd) : Int × Bool := match (if n.kind = 2 then none else lookT T n) with | some i => ((i : Int) + 1, true) | none => (0, false)
theorem zero_term (w : World) : (zeroValue 29).run Tryd.prog w = .ok (.int .i64 0) w := by kernel_rfl
theorem run_lookup_tab {w : World} {mb : Nat} {es : Array MapEntry} {clock : Nat} (hb : w.heap[mb]? = some (.map es clock)) {T : List Nd} (hw : WfT T) (hm : MapOk T es.toList) {n : Nd} (hn : KeyOk n) :
    (Instr.lookup 67 (.map (some mb)) (keyV n) true).run Tryd.prog w = .ok (.tuple #[.int .i64 (foundT T n).1, .bool (foundT T n).2]) w := by
  obtain ⟨l, hl⟩ := key_some hn
  have hkeys : ∀ e ∈ es.toList, ∃ l, keyOf Tryd.prog 94 e.key = some l := fun e he => by
    obtain ⟨i, m, h1, h2, h3, h4⟩ := hm.sound e he
    rw [h3]
    exact key_some ((hw.good i m h1).key (by have := hw.len; have := (List.getElem?_eq_some_iff.1 h1).1; omega))
  rcases key_law.find w hl es.toList hkeys with ⟨h1, h2⟩ | ⟨j, e0, h1, h2, h3⟩
  · have hf : foundT T n = (0, false) := by
      unfold foundT
      by_cases hk : n.kind = 2
      · rw [if_pos hk]
      · rw [if_neg hk]
        cases hlk : lookT T n with
        | none => rfl
        | some i =>
          obtain ⟨e, he, hkey⟩ := hm.full i n (lookT_some hlk) hk
          exact absurd hkey (h2 e he)
    rw [hf]
    simp [Instr.lookup, run_underlying Tryd.underlying67, MapKept.run_getObj_map hb, key_law.check w _ hl, h1, zero_term, Result.andThen]
  · obtain ⟨i, m, g1, g2, g3, g4⟩ := hm.sound e0 (List.mem_of_getElem? h2)
    have : m = n := keyV_inj (g3.symm.trans h3)
    subst this
    have hf : foundT T m = ((i : Int) + 1, true) := by
      unfold foundT
      rw [if_neg g2, lookT_of hw g1 g2]
    rw [hf]
    simp [Instr.lookup, run_underlying Tryd.underlying67, MapKept.run_getObj_map hb, key_law.check w _ hl, h1, g4, Result.andThen]

theorem run_update_tab {w : World} {mb : Nat} {es : Array MapEntry} {clock : Nat} (hb : w.heap[mb]? = some (.map es clock)) {T : List Nd} (hw : WfT T) (hm : MapOk T es.toList) {n : Nd} (hn : KeyOk n) (hno : ∀ i : Nat, T[i]? ≠ some n) (v : Value) :
    (Instr.mapUpdate 67 (.map (some mb)) (keyV n) v).run Tryd.prog w = .ok () (ChangeMaps.setBlock w mb (.map (es.push ⟨keyV n, v, clock⟩) (clock + 1))) := by
  obtain ⟨l, hl⟩ := key_some hn
  have hkeys : ∀ e ∈ es.toList, ∃ l, keyOf Tryd.prog 94 e.key = some l := fun e he => by
    obtain ⟨i, m, h1, h2, h3, h4⟩ := hm.sound e he
    rw [h3]
    exact key_some ((hw.good i m h1).key (by have := hw.len; have := (List.getElem?_eq_some_iff.1 h1).1; omega))
  rcases key_law.find w hl es.toList hkeys with ⟨h1, h2⟩ | ⟨j, e0, h1, h2, h3⟩
  · simp [Instr.mapUpdate, run_underlying Tryd.underlying67, MapKept.run_getObj_map hb, key_law.check w false hl, h1, MapKept.run_setObj_map _ hb, Result.andThen, ChangeMaps.setBlock]
  · obtain ⟨i, m, g1, g2, g3, g4⟩ := hm.sound e0 (List.mem_of_getElem? h2)
    have : m = n := keyV_inj (g3.symm.trans h3)
    subst this
    exact absurd g1 (hno i)

/-- The cells of the terms, one behind the other. -/
structure CellsOk (B : Nat) (w : World) (T : List Nd) (cs : List Value) : Prop where
  kind : ∀ (i : Nat) (n : Nd), T[i]? = some n → cs[i * 3]? = some (.int .i64 n.kind)
  text : ∀ (i : Nat) (n : Nd), T[i]? = some n → cs[i * 3 + 1]? = some (.string n.text)
  parts : ∀ (i : Nat) (n : Nd), T[i]? = some n → ∃ A c, cs[i * 3 + 2]? = some (.slice A n.parts.length c) ∧ Rds B w .i64 A n.parts.length c n.parts
theorem CellsOk.frm {B : Nat} {w w' : World} {T : List Nd} {cs : List Value} (h : CellsOk B w T cs) (hf : Frm spO B w w') : CellsOk B w' T cs :=
  ⟨h.kind, h.text, fun i n e => by obtain ⟨A, c, h1, h2⟩ := h.parts i n e; exact ⟨A, c, h1, h2.frm hf⟩⟩
theorem CellsOk.frm' {C : Obj → Bool} {B B' : Nat} {w w' : World} {T : List Nd} {cs : List Value} (h : CellsOk B w T cs) (hf : Frm C B' w w') (hB : B ≤ B') (hs : ∀ o, C o = true → spO o = true) : CellsOk B w' T cs :=
  h.frm ⟨hf.os, hf.tape, hf.output, hf.size, fun k o hk hh => hf.block k o hk (hh.imp (fun x => by omega) fun x => by cases hx : C o with | false => rfl | true => rw [hs o hx] at x; cases x)⟩
theorem CellsOk.snoc {B : Nat} {w : World} {T : List Nd} {cs : List Value} (h : CellsOk B w T cs) (hl : cs.length = T.length * 3) {n : Nd} {A : Option Addr} {c : Nat} (hr : Rds B w .i64 A n.parts.length c n.parts) :
    CellsOk B w (T ++ [n]) (cs ++ [.int .i64 n.kind, .string n.text, .slice A n.parts.length c]) := by
  have key : ∀ (i : Nat) (m : Nd), (T ++ [n])[i]? = some m → T[i]? = some m ∧ i < T.length ∨ i = T.length ∧ m = n := by
    intro i m hm
    rw [List.getElem?_append] at hm
    split at hm
    · exact .inl ⟨hm, by assumption⟩
    · right
      rcases Nat.lt_or_ge (i - T.length) 1 with h1 | h1
      · have h0 : i - T.length = 0 := by omega
        rw [h0] at hm
        simp at hm
        exact ⟨by omega, hm.symm⟩
      · rw [List.getElem?_eq_none (by simpa using h1)] at hm
        cases hm
  refine ⟨fun i m hm => ?_, fun i m hm => ?_, fun i m hm => ?_⟩
  · rcases key i m hm with ⟨h1, h2⟩ | ⟨rfl, rfl⟩
    · rw [List.getElem?_append_left (by omega)]; exact h.kind i m h1
    · rw [List.getElem?_append_right (by omega), hl]; simp
  · rcases key i m hm with ⟨h1, h2⟩ | ⟨rfl, rfl⟩
    · rw [List.getElem?_append_left (by omega)]; exact h.text i m h1
    · rw [List.getElem?_append_right (by omega), hl]; simp
  · rcases key i m hm with ⟨h1, h2⟩ | ⟨rfl, rfl⟩
    · obtain ⟨A', c', g1, g2⟩ := h.parts i m h1
      exact ⟨A', c', by rw [List.getElem?_append_left (by omega)]; exact g1, g2⟩
    · exact ⟨A, c, by rw [List.getElem?_append_right (by omega), hl]; simp, hr⟩

/-- The types of the blocks of a table. -/
def tabT : Obj → Bool
  | .cells _ t _ => t == 70 || t == 40
  | .map _ _ => true
  | _ => false
/-- A lone node with parts: some function's local variable, never a table's own row. -/
def lone5 (cs : Array Value) : Bool := match cs.toList with
  | [_, _, .slice _ n _] => n != 0
  | _ => false
/-- The blocks that a table turns. -/
def tabO : Obj → Bool
  | .cells cs t _ => t == 70 || (t == 40 && !lone5 cs)
  | .map _ _ => true
  | _ => false
theorem tabO_T : ∀ o, tabO o = true → tabT o = true := by
  intro o h
  unfold tabO at h
  unfold tabT
  split at h
  · simp only [Bool.or_eq_true, Bool.and_eq_true] at h ⊢
    exact h.imp id And.left
  · rfl
  · cases h
theorem tabT_sp : ∀ o, tabT o = true → spO o = true := by
  intro o h
  unfold tabT at h
  unfold spO
  split at h
  · rename_i c t f
    simp only [Bool.or_eq_true, beq_iff_eq] at h
    rcases h with rfl | rfl <;> rfl
  · rfl
  · cases h
theorem tabO_sp : ∀ o, tabO o = true → spO o = true := fun o h => tabT_sp o (tabO_T o h)
theorem Frm.mono {C C' : Obj → Bool} {B : Nat} {w w' : World} (h : Frm C B w w') (hc : ∀ o, C o = true → C' o = true) : Frm C' B w w' :=
  ⟨h.os, h.tape, h.output, h.size, fun k o hk hh => h.block k o hk (hh.imp id fun x => by cases hx : C o with | false => rfl | true => rw [hc o hx] at x; cases x)⟩
theorem Frm.tab_sp {B : Nat} {w w' : World} (h : Frm tabO B w w') : Frm spO B w w' := h.mono tabO_sp

/-- Block tb of w is a table that holds T; all of it lies from B on. -/
def IsTab (B : Nat) (w : World) (tb : Nat) (T : List Nd) : Prop :=
  WfT T ∧ B ≤ tb ∧ ∃ v mb es clock cs, w.heap[tb]? = some (.cells #[v, .map (some mb)] 70 (0, 0)) ∧ B ≤ mb ∧ w.heap[mb]? = some (.map es clock) ∧ MapOk T es.toList ∧
    w.ownsRow B 40 3 v T.length cs ∧ CellsOk B w T cs ∧ (T = [] → v.ownBlock = none)
theorem IsTab.below {B : Nat} {w w' : World} {tb : Nat} {T : List Nd} (h : IsTab B w tb T) (hf : Below w.heap.size w w') : IsTab B w' tb T := by
  obtain ⟨h1, h2, v, mb, es, clock, cs, g1, g2, g3, g4, g5, g6⟩ := h
  exact ⟨h1, h2, v, mb, es, clock, cs, (hf.block _ (lt_of_get g1)).trans g1, g2, (hf.block _ (lt_of_get g3)).trans g3, g4, g5.kept (grown_of_below hf none) (by cases v.ownBlock <;> simp), g6.1.frm (.of_below hf), g6.2⟩
theorem IsTab.frm {C : Obj → Bool} {B B' : Nat} {w w' : World} {tb : Nat} {T : List Nd} (h : IsTab B w tb T) (hf : Frm C B' w w') (hB : B ≤ B') (hc : ∀ o, tabT o = true → C o = false) (hs : ∀ o, C o = true → spO o = true) : IsTab B w' tb T := by
  obtain ⟨h1, h2, v, mb, es, clock, cs, g1, g2, g3, g4, g5, g6⟩ := h
  refine ⟨h1, h2, v, mb, es, clock, cs, hf.block _ _ g1 (.inr (hc _ (by simp [tabT]))), g2, hf.block _ _ g3 (.inr (hc _ rfl)), g4, ⟨g5.1, ?_⟩, g6.1.frm' hf hB hs, g6.2⟩
  rcases g5.2 with k | ⟨g, cap, cur, e, k1, k2, k3⟩
  · exact .inl k
  · exact .inr ⟨g, cap, cur, e, k1, hf.block _ _ k2 (.inr (hc _ (by simp [tabT]))), k3⟩
/-- A table's own row is one that it may turn. -/
theorem row_turns {B : Nat} {w : World} {T : List Nd} {v : Value} {cs : List Value} (hw : WfT T) (hown : w.ownsRow B 40 3 v T.length cs) (hcs : CellsOk B w T cs) (hnil : T = [] → v.ownBlock = none) {k : Nat} {o : Obj} (hk : w.heap[k]? = some o) (e : some k = v.ownBlock) : tabO o = true := by
  rcases hown.2 with ⟨h, _⟩ | ⟨g, cap, cur, h, _, hg, _, _, _, hcur⟩
  · rw [h] at e; simp [Value.ownBlock] at e
  · cases hT : T with
    | nil => rw [hnil hT] at e; cases e
    | cons n0 R =>
      rw [h] at e
      simp only [Value.ownBlock, Option.some.injEq] at e
      subst e
      rw [hg] at hk
      cases hk
      have h0 : T[0]? = some n0 := by rw [hT]; rfl
      obtain ⟨A0, c0, hk0, -⟩ := hcs.parts 0 n0 h0
      have hp0 : n0.parts.length = 0 := by
        cases hp : n0.parts with
        | nil => rfl
        | cons p P =>
          have := (hw.good 0 n0 h0).range p (by rw [hp]; simp)
          omega
      rw [hp0] at hk0
      have hl5 : lone5 cur = false := by
        unfold lone5
        split
        · rename_i a b A n c hl
          rw [← hcur, hl, hT, List.getElem?_take] at hk0
          simp only [List.length_cons] at hk0
          rw [if_pos (by omega)] at hk0
          simp at hk0
          simp [hk0.2.1]
        · rfl
      simp [tabO, hl5]
theorem IsTab.lt {B : Nat} {w : World} {tb : Nat} {T : List Nd} (h : IsTab B w tb T) : tb < w.heap.size := by
  obtain ⟨h1, h2, v, mb, es, clock, cs, g1, _⟩ := h
  exact lt_of_get g1
end Go.Proofs.YtmaedahleenlgaaDoor

/- What (*Table).add does. No condition. -/
set_option linter.unusedVariables false
set_option linter.unusedSimpArgs false
namespace Go.Proofs.YtmaedahleenlgaaDoor
open Go Go.RowKit Go.WideMaps

theorem size_term : (Tryd.prog.info? 29).map (·.size) = some 1 := by kernel_rfl
theorem size_key : (Tryd.prog.info? 94).map (·.size) = some 19 := by kernel_rfl
theorem info_node : (Tryd.prog.info? 40).map (fun i => (i.zero, i.size, i.bytes)) = some (some (.agg #[.int .i64 0, .string ByteArray.empty, .slice none 0 0]), 3, 48) := by kernel_rfl

def keyCells (n : Nd) : Array Value := (Value.int .i64 n.kind :: .string n.text :: .int .i64 n.parts.length :: (padP n.parts).map (Value.int .i64)).toArray
theorem keyCells_size {n : Nd} (h : n.parts.length ≤ 16) : (keyCells n).size = 19 := by simp [keyCells, padP_length h]
/-- The key's block behind the copy. -/
theorem key_copied (kind : Int) (text : ByteArray) (parts : List Int) (h : parts.length ≤ 16) :
    ((#[Value.int .i64 kind, .string text, .int .i64 parts.length, .int .i64 0, .int .i64 0, .int .i64 0, .int .i64 0, .int .i64 0, .int .i64 0, .int .i64 0, .int .i64 0, .int .i64 0, .int .i64 0, .int .i64 0, .int .i64 0, .int .i64 0, .int .i64 0, .int .i64 0, .int .i64 0] : Array Value).toList.take 3 ++ (parts.map (Value.int .i64) ++
     (#[Value.int .i64 kind, .string text, .int .i64 parts.length, .int .i64 0, .int .i64 0, .int .i64 0, .int .i64 0, .int .i64 0, .int .i64 0, .int .i64 0, .int .i64 0, .int .i64 0, .int .i64 0, .int .i64 0, .int .i64 0, .int .i64 0, .int .i64 0, .int .i64 0, .int .i64 0] : Array Value).toList.drop (3 + parts.length))).toArray = keyCells ⟨kind, text, parts⟩ := by
  have e : (#[Value.int .i64 kind, .string text, .int .i64 parts.length, .int .i64 0, .int .i64 0, .int .i64 0, .int .i64 0, .int .i64 0, .int .i64 0, .int .i64 0, .int .i64 0, .int .i64 0, .int .i64 0, .int .i64 0, .int .i64 0, .int .i64 0, .int .i64 0, .int .i64 0, .int .i64 0] : Array Value).toList = [Value.int .i64 kind, .string text, .int .i64 parts.length] ++ List.replicate 16 (.int .i64 0) := rfl
  have e2 : ∀ (x y z : Value) (l : List Value) (k : Nat), List.drop (3 + k) (x :: y :: z :: l) = l.drop k := fun x y z l k => by rw [Nat.add_comm]; rfl
  rw [e]
  simp only [List.cons_append, List.nil_append, List.take_succ_cons, List.take_zero, e2, List.drop_replicate, keyCells, padP, List.map_append, List.map_replicate]

theorem wpStill_lookup {w : World} {ops : Array Oper} {rest : List Oper} {o : Oper} {a : Act} {Q : Act → Prop} (hgd : o.guard = none) (x y : Operand) (ho : o.op = .lookup 67 x y true)
    {mb : Nat} {es : Array MapEntry} {clock : Nat} {T : List Nd} {n : Nd} (hx : a.eval x = .map (some mb)) (hy : a.eval y = keyV n) (hb : w.heap[mb]? = some (.map es clock)) (hw : WfT T) (hm : MapOk T es.toList) (hn : KeyOk n)
    (h : wpStill Tryd.prog ops w Q rest (a.put o.dst (.tuple #[.int .i64 (foundT T n).1, .bool (foundT T n).2]))) : wpStill Tryd.prog ops w Q (o :: rest) a := by
  refine wpStill_op hgd ?_ h
  unfold execOp
  simp only [ho, hx, hy, Sem.run_bind, run_lookup_tab hb hw hm hn, Result.andThen_ok, Sem.run_pure]

theorem wp_update {w : World} {ops : Array Oper} {rest : List Oper} {o : Oper} {a : Act} {Q : Exit → Act → World → Prop} (hgd : o.guard = none) (hdst : o.dst = none) (x y z : Operand) (ho : o.op = .mapUpdate 67 x y z)
    {mb : Nat} {es : Array MapEntry} {clock : Nat} {T : List Nd} {n : Nd} {v : Value} (hx : a.eval x = .map (some mb)) (hy : a.eval y = keyV n) (hz : a.eval z = v) (hb : w.heap[mb]? = some (.map es clock)) (hw : WfT T) (hm : MapOk T es.toList) (hn : KeyOk n) (hno : ∀ i : Nat, T[i]? ≠ some n)
    (h : wpList Tryd.prog ops Q rest a (ChangeMaps.setBlock w mb (.map (es.push ⟨keyV n, v, clock⟩) (clock + 1)))) : wpList Tryd.prog ops Q (o :: rest) a w := by
  refine wp_op_skip hgd ?_ (by rw [hdst]; exact h)
  unfold execOp
  simp only [ho, hx, hy, hz, Sem.run_bind, run_update_tab hb hw hm hn hno, Result.andThen_ok, Sem.run_pure]
theorem owned_slice {w : World} {base e size n : Nat} {v : Value} {xs : List Value} (h : w.ownsRow base e size v n xs) : ∃ A c, v = .slice A n c := by
  rcases h.2 with ⟨rfl, rfl⟩ | ⟨g, cap, cur, rfl, _⟩
  · exact ⟨none, 0, rfl⟩
  · exact ⟨_, _, rfl⟩

theorem own_ne_tab {w : World} {B e size n tb : Nat} {v : Value} {xs : List Value} {o : Obj} (h : w.ownsRow B e size v n xs) (ho : w.heap[tb]? = some o) (ht : (match o with | .cells _ t _ => t == e | _ => false) = false) : some tb ≠ v.ownBlock := by
  rcases h.2 with ⟨rfl, _⟩ | ⟨g, cap, cur, rfl, _, hg, _⟩
  · simp [Value.ownBlock]
  · intro e
    simp only [Value.ownBlock, Option.some.injEq] at e
    subst e
    rw [hg] at ho
    cases ho
    simp at ht
def AddPost (B tb : Nat) (T : List Nd) (n : Nd) (w : World) (e : Ending) (w' : World) : Prop := e = .returned (.int .i64 (addT T n).2) ∧ IsTab B w' tb (addT T n).1 ∧ Frm tabO B w w'
theorem add_found {B tb : Nat} {T : List Nd} {n : Nd} {w w' : World} {i : Nat} (h : (if n.kind = 2 then none else lookT T n) = some i) (ht : IsTab B w tb T) (hb : Below w.heap.size w w') : AddPost B tb T n w (.returned (.int .i64 ((i : Int) + 1))) w' := by
  unfold AddPost addT
  rw [h]
  exact ⟨rfl, ht.below hb, .of_below hb⟩
theorem add_full {B tb : Nat} {T : List Nd} {n : Nd} {w w' : World} (h : (if n.kind = 2 then none else lookT T n) = none) (hl : T.length = 65536) (ht : IsTab B w tb T) (hb : Below w.heap.size w w') : AddPost B tb T n w (.returned (.int .i64 0)) w' := by
  unfold AddPost addT
  rw [h]
  simp only [if_pos hl]
  exact ⟨trivial, ht.below hb, .of_below hb⟩

theorem grownBy_setCell (w : World) (p : Addr) (u : Value) : w.grownBy (w.setCell p u) (some p.block) :=
  ⟨rfl, rfl, rfl, by simp, fun k hk hne => Below.heap_setCell w p u k (fun e => hne (by rw [e]))⟩
/-- Behind the append and the store. -/
structure AddMid (B : Nat) (w : World) (tb mb g cap : Nat) (T : List Nd) (n : Nd) (P : Option Addr) (c : Nat) (cs : List Value) (es : Array MapEntry) (clock : Nat) (w6 : World) : Prop where
  tab : w6.heap[tb]? = some (.cells #[.slice (some ⟨g, 0, none⟩) (T.length + 1) cap, .map (some mb)] 70 (0, 0))
  map : w6.heap[mb]? = some (.map es clock)
  node : w6.heap[w.heap.size]? = some (.cells #[.int .i64 n.kind, .string n.text, .slice P n.parts.length c] 40 (0, 0))
  key : w6.heap[w.heap.size + 1]? = some (.cells (keyCells n) 94 (0, 0))
  own : w6.ownsRow B 40 3 (.slice (some ⟨g, 0, none⟩) (T.length + 1) cap) (T.length + 1) (cs ++ [.int .i64 n.kind, .string n.text, .slice P n.parts.length c])
  frm : Frm tabO B w w6
theorem add_mid {B : Nat} {w w3 w5 : World} {tb mb g cap : Nat} {T : List Nd} {n : Nd} {A P : Option Addr} {cA c : Nat} {cs : List Value} {es : Array MapEntry} {clock : Nat} (hB : B ≤ tb)
    (h1 : w.heap[tb]? = some (.cells #[.slice A T.length cA, .map (some mb)] 70 (0, 0))) (h3 : w.heap[mb]? = some (.map es clock)) (hown : w.ownsRow B 40 3 (.slice A T.length cA) T.length cs)
    (b3 : Below w.heap.size w w3) (s3 : w3.heap.size = w.heap.size + 2) (f1 : w3.heap[w.heap.size]? = some (.cells #[.int .i64 n.kind, .string n.text, .slice P n.parts.length c] 40 (0, 0)))
    (f2 : w3.heap[w.heap.size + 1]? = some (.cells (keyCells n) 94 (0, 0))) {N : Obj}
    (hown5 : w5.ownsRow B 40 3 (.slice (some ⟨g, 0, none⟩) (T.length + 1) cap) (T.length + 1) (cs ++ [.int .i64 n.kind, .string n.text, .slice P n.parts.length c]))
    (hgr5 : (w3.alloc N).drew.grownBy w5 (Value.slice A T.length cA).ownBlock) (hg5 : (Value.slice A T.length cA).ownBlock = some g ∨ g = w3.heap.size + 1) (hturn : ∀ k o, w.heap[k]? = some o → some k = (Value.slice A T.length cA).ownBlock → tabO o = true) :
    AddMid B w tb mb g cap T n P c cs es clock (w5.setCell ⟨tb, 0, none⟩ (.slice (some ⟨g, 0, none⟩) (T.length + 1) cap)) := by
  have htb := lt_of_get h1
  have hmb := lt_of_get h3
  have hne1 : some tb ≠ (Value.slice A T.length cA).ownBlock := own_ne_tab hown h1 rfl
  have hne2 : some mb ≠ (Value.slice A T.length cA).ownBlock := own_ne_tab hown h3 rfl
  have hbig : ∀ k, w.heap.size ≤ k → some k ≠ (Value.slice A T.length cA).ownBlock := fun k hk e => by
    have := (hown.lt k e.symm).2
    omega
  have hgt : g ≠ tb := by
    rintro rfl
    rcases hg5 with h | h
    · exact hne1 h.symm
    · omega
  have hmt : mb ≠ tb := by
    rintro rfl
    rw [h1] at h3
    cases h3
  have old : ∀ k, k < w3.heap.size → some k ≠ (Value.slice A T.length cA).ownBlock → w5.heap[k]? = w3.heap[k]? := fun k hk hne =>
    (hgr5.block k (by simp; omega) hne).trans (alloc_old hk)
  have old6 : ∀ k, k < w3.heap.size → k ≠ tb → some k ≠ (Value.slice A T.length cA).ownBlock → (w5.setCell ⟨tb, 0, none⟩ (.slice (some ⟨g, 0, none⟩) (T.length + 1) cap)).heap[k]? = w3.heap[k]? := fun k hk hk2 hne =>
    (Below.heap_setCell w5 _ _ k hk2).trans (old k hk hne)
  have e5 : w5.heap[tb]? = some (.cells #[.slice A T.length cA, .map (some mb)] 70 (0, 0)) := (old tb (by omega) hne1).trans ((b3.block tb htb).trans h1)
  refine ⟨heap_setCell_same w5 tb 0 _ _ _ e5, (old6 mb (by omega) hmt hne2).trans ((b3.block mb hmb).trans h3), (old6 _ (by omega) (by omega) (hbig _ (Nat.le_refl _))).trans f1, (old6 _ (by omega) (by omega) (hbig _ (by omega))).trans f2,
    hown5.kept (grownBy_setCell w5 _ _) (.inr (by simp [Value.ownBlock]; exact hgt)), ⟨?_, ?_, ?_, ?_, fun k o hk hc => ?_⟩⟩
  · exact hgr5.os.trans b3.os
  · exact hgr5.tape.trans b3.tape
  · exact hgr5.output.trans b3.output
  · have := hgr5.size; simp at this ⊢; omega
  · have hkl := lt_of_get hk
    have hkt : k ≠ tb := by
      rintro rfl
      rw [h1] at hk
      cases hk
      rcases hc with hc | hc
      · omega
      · simp [tabO] at hc
    have hko : some k ≠ (Value.slice A T.length cA).ownBlock := by
      intro e
      have hb := (hown.lt k e.symm).1
      have ht := hturn k o hk e
      rcases hc with hc | hc
      · omega
      · rw [ht] at hc; cases hc
    exact (old6 k (by omega) hkt hko).trans ((b3.block k hkl).trans hk)
theorem isTab_push {B : Nat} {w w6 w7 : World} {tb mb g cap : Nat} {T : List Nd} {n : Nd} {P : Option Addr} {c : Nat} {cs : List Value} {es : Array MapEntry} {clock : Nat} (M : AddMid B w tb mb g cap T n P c cs es clock w6)
    (hw : WfT T) (hB : B ≤ tb) (hmb : B ≤ mb) (hm : MapOk T es.toList) (hcs : CellsOk B w T cs) (hl : cs.length = T.length * 3) (hg : GoodN T.length T n) (hr : Rds B w .i64 P n.parts.length c n.parts) (hq : (if n.kind = 2 then none else lookT T n) = none) (hlt : T.length < 65536)
    (hw7 : w7 = if n.kind = 2 then w6 else ChangeMaps.setBlock w6.drew mb (.map (es.push ⟨keyV n, .int .i64 ((T.length : Int) + 1), clock⟩) (clock + 1))) :
    AddPost B tb T n w (.returned (.int .i64 ((T.length : Int) + 1))) w7 := by
  have hadd : addT T n = (T ++ [n], (T.length : Int) + 1) := by
    unfold addT
    rw [hq]
    simp only [if_neg (show ¬ T.length = 65536 by omega)]
  have hwf : WfT (T ++ [n]) := wfT_snoc hw hg hlt fun hk => by rw [if_neg hk] at hq; exact lookT_none hq
  have hmo := hm.snoc n clock
  unfold AddPost
  rw [hadd]
  refine ⟨rfl, ?_⟩
  by_cases hk : n.kind = 2
  · rw [if_pos hk] at hw7 hmo
    subst hw7
    exact ⟨⟨hwf, hB, _, mb, es, clock, _, M.tab, hmb, M.map, hmo, by simpa using M.own, (hcs.frm M.frm.tab_sp).snoc hl (hr.frm M.frm.tab_sp), fun h => by simp at h⟩, M.frm⟩
  · rw [if_neg hk] at hw7 hmo
    have hml := lt_of_get M.map
    have at_mb : w7.heap[mb]? = some (.map (es.push ⟨keyV n, .int .i64 ((T.length : Int) + 1), clock⟩) (clock + 1)) := by
      rw [hw7]; simp [ChangeMaps.setBlock, hml]
    have other : ∀ k, k ≠ mb → w7.heap[k]? = w6.heap[k]? := fun k hk => by
      rw [hw7]; simp only [ChangeMaps.setBlock, World.drew]; rw [Array.getElem?_setIfInBounds_ne (Ne.symm hk)]
    have hsz : w7.heap.size = w6.heap.size := by rw [hw7]; simp [ChangeMaps.setBlock]
    have f67 : Frm tabO B w6 w7 := ⟨by rw [hw7]; rfl, by rw [hw7]; rfl, by rw [hw7]; rfl, by omega, fun k o ho hc => by
      by_cases hkm : k = mb
      · subst hkm
        rw [M.map] at ho
        cases ho
        rcases hc with hc | hc
        · omega
        · simp [tabO] at hc
      · rw [other k hkm]; exact ho⟩
    have hne1 : tb ≠ mb := by
      rintro rfl
      have := M.tab
      rw [M.map] at this
      cases this
    have frm := M.frm.trans f67
    refine ⟨⟨hwf, hB, _, mb, _, clock + 1, _, (other tb hne1).trans M.tab, hmb, at_mb, by simpa using hmo, ⟨by have := M.own.1; simpa using this, ?_⟩, (hcs.frm frm.tab_sp).snoc hl (hr.frm frm.tab_sp), fun h => by simp at h⟩, frm⟩
    rcases M.own.2 with ⟨h, _⟩ | ⟨g', cap', cur, h, k1, k2, k3⟩
    · cases h
    · refine .inr ⟨g', cap', cur, by simpa using h, k1, (other g' ?_).trans k2, by simpa using k3⟩
      rintro rfl
      rw [M.map] at k2
      cases k2

set_option maxHeartbeats 3200000 in
set_option maxRecDepth 100000 in
theorem add_any {B : Nat} {tb : Nat} {T : List Nd} (kind : Int) (text : ByteArray) (P : Option Addr) (n c : Nat) (parts : List Int) (w : World) (ht : IsTab B w tb T) (hg : GoodN T.length T ⟨kind, text, parts⟩) (hr : Rds B w .i64 P n c parts) :
    Calls Tryd.prog 28 #[.pointer (some ⟨tb, 0, none⟩), .agg #[.int .i64 kind, .string text, .slice P n c]] w (AddPost B tb T ⟨kind, text, parts⟩ w) := by
  have HG := Lib.hid hg; clear hg
  have HR := Lib.hid hr; clear hr
  have HT := Lib.hid ht
  obtain ⟨hw, hB, v, mb, es, clock, cs, h1, hmb, h3, hm, hown, hcs, hnil⟩ := ht
  have hlen := HR.out.len
  subst hlen
  have hn : parts.length ≤ 16 := HG.out.many
  have htb : tb < w.heap.size := lt_of_get h1
  have hmbl : mb < w.heap.size := lt_of_get h3
  have hTl := hw.len
  obtain ⟨A, cA, rfl⟩ := owned_slice hown
  have HK := Lib.hid (HG.out.key hw.len)
  have Hw := Lib.hid hw
  have H1 := Lib.hid h1
  have H3 := Lib.hid h3
  have Hm := Lib.hid hm
  have Hown := Lib.hid hown
  have Hcs := Lib.hid hcs
  have HTurn : Hid (∀ k o, w.heap[k]? = some o → some k = (Value.slice A T.length cA).ownBlock → tabO o = true) := fun k o hk e => row_turns hw hown hcs hnil hk e
  clear hw h1 h3 hm hown hcs hnil
  go_enter Tryd.func28, Tryd.ntmps28
  go_wp2_with ((with_reducible show wpList _ _ _ (Oper.mk _ (Op.store 94 _ _) _ _ _ _ :: _) _ _); (refine wp_store_new rfl rfl 94 _ _ rfl _ #[.int .i64 kind, .string text, .int .i64 parts.length, .int .i64 0, .int .i64 0, .int .i64 0, .int .i64 0, .int .i64 0, .int .i64 0, .int .i64 0, .int .i64 0, .int .i64 0, .int .i64 0, .int .i64 0, .int .i64 0, .int .i64 0, .int .i64 0, .int .i64 0, .int .i64 0] _ (w.heap.size + 1) ?_ rfl rfl size_key rfl ?_ ?_); (simp [World.size_alloc]); (simp [Value.oneCell']))
  refine wp_still_tail 4 (by kernel_rfl) (by kernel_rfl) ?_
  intro w1 hw1
  have b1 : Below w.heap.size w w1 := by rw [hw1]; exact ((((Below.refl _ _).alloc (Nat.le_refl _) _).alloc (by simp) _)).drew
  have f1 : w1.heap[w.heap.size]? = some (.cells #[.int .i64 kind, .string text, .slice P parts.length c] 40 (0, 0)) := by
    rw [hw1]; exact heap_alloc2_old w _ _
  have f2 : w1.heap[w.heap.size + 1]? = some (.cells #[.int .i64 kind, .string text, .int .i64 parts.length, .int .i64 0, .int .i64 0, .int .i64 0, .int .i64 0, .int .i64 0, .int .i64 0, .int .i64 0, .int .i64 0, .int .i64 0, .int .i64 0, .int .i64 0, .int .i64 0, .int .i64 0, .int .i64 0, .int .i64 0, .int .i64 0] 94 (0, 0)) := by
    rw [hw1]; exact heap_alloc2_new w _ _
  have s1 : w1.heap.size = w.heap.size + 2 := by rw [hw1]; simp
  have c2 : w1.cell? ⟨w.heap.size, 2, none⟩ = some (.slice P parts.length c) := by rw [cell_of_row w1 w.heap.size 2 _ _ _ f1]; rfl
  have B1 := Lib.hid b1
  have F1 := Lib.hid f1
  have F2 := Lib.hid f2
  have S1 := Lib.hid s1
  clear b1 f1 f2 s1 hw1
  simp only [List.take_succ_cons, List.take_zero, List.drop_succ_cons, List.drop_zero]
  repeat still_step
  refine wpStill_nil ?_
  refine wp_copy_row rfl _ _ _ _ rfl 29 Tryd.underlying38 size_term (w.heap.size + 1) 3 16 16 P parts.length c rfl rfl _ _ F2.out .i64 parts ((HR.out.below B1.out).cell) rfl hn (by simp; omega) ?_
  rw [key_copied kind text parts hn]
  obtain ⟨w2, hw2⟩ : ∃ w2, w2 = w1.setRow (w.heap.size + 1) (keyCells ⟨kind, text, parts⟩) := ⟨_, rfl⟩
  rw [← hw2]
  have b2 : Below w.heap.size w w2 := by rw [hw2]; exact below_setRow B1.out (by omega) _
  have f1 : w2.heap[w.heap.size]? = some (.cells #[.int .i64 kind, .string text, .slice P parts.length c] 40 (0, 0)) := by
    rw [hw2, setRow_other w1 _ _ _ (by omega)]; exact F1.out
  have f2 : w2.heap[w.heap.size + 1]? = some (.cells (keyCells ⟨kind, text, parts⟩) 94 (0, 0)) := by
    rw [hw2]; exact setRow_heap w1 _ _ _ _ _ F2.out
  have s2 : w2.heap.size = w.heap.size + 2 := by rw [hw2, size_setRow]; exact S1.out
  clear hw2 c2 B1 F1 F2 S1
  have B2 := Lib.hid b2
  have F1 := Lib.hid f1
  have F2 := Lib.hid f2
  have S2 := Lib.hid s2
  clear b2 f1 f2 s2
  go_wp2_with fail
  refine wp_still_all (by kernel_rfl) (by kernel_rfl) ?_
  intro w3 hw3
  have b3 : Below w.heap.size w w3 := by rw [hw3]; exact B2.out.drew
  have f1 : w3.heap[w.heap.size]? = some (.cells #[.int .i64 kind, .string text, .slice P parts.length c] 40 (0, 0)) := by rw [hw3]; exact F1.out
  have f2 : w3.heap[w.heap.size + 1]? = some (.cells (keyCells ⟨kind, text, parts⟩) 94 (0, 0)) := by rw [hw3]; exact F2.out
  have s3 : w3.heap.size = w.heap.size + 2 := by rw [hw3]; exact S2.out
  have t1 : w3.heap[tb]? = some (.cells #[.slice A T.length cA, .map (some mb)] 70 (0, 0)) := (b3.block _ htb).trans H1.out
  have t3 : w3.heap[mb]? = some (.map es clock) := (b3.block _ hmbl).trans H3.out
  clear hw3 B2 F1 F2 S2
  have c0 : w3.cell? ⟨tb, 0, none⟩ = some (.slice A T.length cA) := by rw [cell_of_row w3 tb 0 _ _ _ t1]; rfl
  have c1 : w3.cell? ⟨tb, 1, none⟩ = some (.map (some mb)) := by rw [cell_of_row w3 tb 1 _ _ _ t1]; rfl
  have d0 : w3.cell? ⟨w.heap.size, 0, none⟩ = some (.int .i64 kind) := by rw [cell_of_row w3 w.heap.size 0 _ _ _ f1]; rfl
  have d1 : w3.cell? ⟨w.heap.size, 1, none⟩ = some (.string text) := by rw [cell_of_row w3 w.heap.size 1 _ _ _ f1]; rfl
  have d2 : w3.cell? ⟨w.heap.size, 2, none⟩ = some (.slice P parts.length c) := by rw [cell_of_row w3 w.heap.size 2 _ _ _ f1]; rfl
  have B3 := Lib.hid b3
  have F1 := Lib.hid f1
  have F2 := Lib.hid f2
  have S3 := Lib.hid s3
  have T1 := Lib.hid t1
  have T3 := Lib.hid t3
  clear b3 f1 f2 s3 t1 t3
  still_step
  still_step
  still_step
  still_step
  refine wpStill_load_row rfl 94 _ rfl (w.heap.size + 1) rfl _ _ _ _ Tryd.underlying94 rfl (by rw [keyCells_size hn]; exact size_key) F2.out ?_
  refine wpStill_lookup rfl _ _ rfl (mb := mb) (T := T) (n := ⟨kind, text, parts⟩) rfl rfl T3.out Hw.out Hm.out HK.out ?_
  cases hq : (if (⟨kind, text, parts⟩ : Nd).kind = 2 then none else lookT T ⟨kind, text, parts⟩) with
  | some i =>
    have hf : foundT T ⟨kind, text, parts⟩ = ((i : Int) + 1, true) := by unfold foundT; rw [hq]
    rw [hf]
    have hk2 : (kind != 2) = true := by
      by_cases hk : kind = 2
      · rw [if_pos hk] at hq; cases hq
      · simp [hk]
    have HQ := Lib.hid hq
    clear hq hf
    repeat still_step
    refine wpStill_nil ?_
    go_wp2_with fail
    go_ret
    exact add_found HQ.out HT.out B3.out
  | none =>
    have hf : foundT T ⟨kind, text, parts⟩ = (0, false) := by unfold foundT; rw [hq]
    rw [hf]
    have HQ := Lib.hid hq
    clear hq hf
    repeat still_step
    refine wpStill_nil ?_
    by_cases hfull : T.length = 65536
    · have hfull' : ((T.length : Int) == 65536) = true := by simp; omega
      have HF := Lib.hid hfull
      clear hfull
      go_wp2_with fail
      go_ret
      exact add_full HQ.out HF.out HT.out B3.out
    have hfull' : ((T.length : Int) == 65536) = false := by simp; omega
    have hlt : T.length < 65536 := by omega
    clear hfull
    go_wp2_with fail
    obtain ⟨i0, hi0, hz0, hz1, hz2⟩ := info_parts info_node
    have ON := Lib.hid (((Hown.out.kept (grown_of_below B3.out none) (by cases A <;> simp [Value.ownBlock])).alloc (.cells #[.int .i64 kind, .string text, .slice P parts.length c] 40)).drew)
    have hne : Hid (some tb ≠ (Value.slice A T.length cA).ownBlock) := own_ne_tab ON.out (o := .cells #[.slice A T.length cA, .map (some mb)] 70 (0, 0)) ((alloc_old (by have := S3.out; omega)).trans T1.out) rfl
    have tabcell : Hid (∀ w5, (w3.alloc (.cells #[.int .i64 kind, .string text, .slice P parts.length c] 40)).drew.grownBy w5 (Value.slice A T.length cA).ownBlock → w5.cell? ⟨tb, 0, none⟩ = some (.slice A T.length cA) ∧ w5.frozen? ⟨tb, 0, none⟩ = false) := by
      intro w5 hg
      have e : w5.heap[tb]? = some (.cells #[.slice A T.length cA, .map (some mb)] 70 (0, 0)) := (hg.block tb (by have := S3.out; simp; omega) hne.out).trans ((alloc_old (by have := S3.out; omega)).trans T1.out)
      exact ⟨by rw [cell_of_row w5 tb 0 _ _ _ e]; rfl, frozen_of_row w5 tb 0 _ _ e⟩
    have hnews : Hid (∀ j u, ([.int .i64 kind, .string text, .slice P parts.length c] : List Value)[j]? = some u → (w3.alloc (.cells #[.int .i64 kind, .string text, .slice P parts.length c] 40)).drew.cell? ((⟨w3.heap.size, 0, none⟩ : Addr).add j) = some u) := World.news_of_block (heap_alloc_new w3 _)
    have hone : Hid (∀ u ∈ ([.int .i64 kind, .string text, .slice P parts.length c] : List Value), u.oneCell' = true) := by
      intro u hu; simp at hu; rcases hu with rfl | rfl | rfl <;> rfl
    have hbase : Hid (B ≤ (w3.alloc (.cells #[.int .i64 kind, .string text, .slice P parts.length c] 40)).drew.heap.size) := by have := S3.out; show B ≤ _; simp; omega
    have hml : Hid (T.length + 1 ≤ maxLen) := by show _ ≤ _; simp only [maxLen]; omega
    have hby : Hid ((T.length + 1) * 48 ≤ 140737488355328) := by show _ ≤ _; omega
    have hsz : Hid ((w3.alloc (.cells #[.int .i64 kind, .string text, .slice P parts.length c] 40)).drew.heap.size = w3.heap.size + 1) := by show _ = _; simp
    have htb3 : tb < w3.heap.size := by have := S3.out; omega
    have hws3 : w.heap.size < w3.heap.size := by have := S3.out; omega
    go_region_law ((refine step_append_lies _ rfl (.tmp 48) (.tmp 50) 68 rfl B 40 i0 _ 3 48 Tryd.underlying68 hi0 hz0 hz1 hz2 rfl (by decide) (.slice A T.length cA) T.length cs (by simp [Act.eval, Act.put]) ON.out ⟨w3.heap.size, 0, none⟩ 1 1 [.int .i64 kind, .string text, .slice P parts.length c] (by simp [Act.eval, Act.put]) rfl hnews.out hone.out (by decide) hml.out hby.out hbase.out (w3.heap.size + 1) hsz.out ?_); intro g cap w5 hown5 hgr5 hg5 hgl5; have HOWN5 := Lib.hid hown5; have HGR5 := Lib.hid hgr5; have HG5 := Lib.hid hg5; obtain ⟨e0, e1⟩ := tabcell.out w5 hgr5; clear hown5 hgr5 hg5)
    all_goals
      have M := Lib.hid (add_mid (n := ⟨kind, text, parts⟩) hB H1.out H3.out Hown.out B3.out S3.out F1.out F2.out HOWN5.out HGR5.out HG5.out HTurn.out)
      obtain ⟨w6, hw6⟩ : ∃ w6, w6 = w5.setCell ⟨tb, 0, none⟩ (.slice (some ⟨g, 0, none⟩) (T.length + 1) cap) := ⟨_, rfl⟩
      rw [← hw6] at M ⊢
      clear hw6 HOWN5 HGR5 HG5 e0 e1 c0 c1 d0 d1 d2 htb3 hws3 ON hne tabcell hnews hone hbase hml hby hsz hgl5
      have c0 : w6.cell? ⟨tb, 0, none⟩ = some (.slice (some ⟨g, 0, none⟩) (T.length + 1) cap) := by rw [cell_of_row w6 tb 0 _ _ _ M.out.tab]; rfl
      have c1 : w6.cell? ⟨tb, 1, none⟩ = some (.map (some mb)) := by rw [cell_of_row w6 tb 1 _ _ _ M.out.tab]; rfl
      have d0 : w6.cell? ⟨w.heap.size, 0, none⟩ = some (.int .i64 kind) := by rw [cell_of_row w6 w.heap.size 0 _ _ _ M.out.node]; rfl
      by_cases hk : kind = 2
      · have hk' : (kind != 2) = false := by simp [hk]
        have HKK := Lib.hid hk
        clear hk
        go_wp2_with fail
        go_ret
        exact isTab_push M.out Hw.out hB hmb Hm.out Hcs.out Hown.out.1 HG.out HR.out HQ.out hlt (by rw [if_pos HKK.out])
      · have hk' : (kind != 2) = true := by simp [hk]
        have HKK := Lib.hid hk
        clear hk
        go_wp2_with fail
        refine wp_still_tail 6 (by kernel_rfl) (by kernel_rfl) ?_
        intro w7 hw7
        have e1 : w7.cell? ⟨tb, 1, none⟩ = some (.map (some mb)) := by rw [hw7]; exact c1
        have m7 : w7.heap[mb]? = some (.map es clock) := by rw [hw7]; exact M.out.map
        have k7 : w7.heap[w.heap.size + 1]? = some (.cells (keyCells ⟨kind, text, parts⟩) 94 (0, 0)) := by rw [hw7]; exact M.out.key
        have M7 := Lib.hid m7
        have K7 := Lib.hid k7
        have W7 := Lib.hid hw7
        clear hw7 m7 k7 c0 c1
        simp only [List.take_succ_cons, List.take_zero, List.drop_succ_cons, List.drop_zero]
        still_step
        still_step
        still_step
        still_step
        refine wpStill_load_row rfl 94 _ rfl (w.heap.size + 1) rfl _ _ _ _ Tryd.underlying94 rfl (by rw [keyCells_size hn]; exact size_key) K7.out ?_
        still_step
        refine wpStill_nil ?_
        refine wp_update rfl rfl _ _ _ rfl (mb := mb) (T := T) (n := ⟨kind, text, parts⟩) (v := .int .i64 ((T.length : Int) + 1)) rfl rfl rfl M7.out Hw.out Hm.out HK.out (lookT_none (by have := HQ.out; rw [if_neg HKK.out] at this; exact this)) ?_
        rw [W7.out]
        obtain ⟨w8, hw8⟩ : ∃ w8, w8 = ChangeMaps.setBlock w6.drew mb (.map (es.push ⟨keyV ⟨kind, text, parts⟩, .int .i64 ((T.length : Int) + 1), clock⟩) (clock + 1)) := ⟨_, rfl⟩
        rw [← hw8]
        have W8 := Lib.hid hw8
        clear hw8 e1 d0
        go_wp2_with fail
        go_ret
        exact isTab_push M.out Hw.out hB hmb Hm.out Hcs.out Hown.out.1 HG.out HR.out HQ.out hlt (by rw [if_neg HKK.out]; exact W8.out)
end Go.Proofs.YtmaedahleenlgaaDoor

/- What New, Size, Secret, Text, Clone and Look do. No condition. -/
set_option linter.unusedVariables false
set_option linter.unusedSimpArgs false
namespace Go.Proofs.YtmaedahleenlgaaDoor
open Go Go.RowKit Go.WideMaps

/-- A call on a table: its answer, the table behind it, what turned. -/
def TabPost (B tb : Nat) (w : World) (r : List Nd × Int) (e : Ending) (w' : World) : Prop := e = .returned (.int .i64 r.2) ∧ IsTab B w' tb r.1 ∧ Frm tabO B w w'
theorem tabPost_same {B tb : Nat} {w w' : World} {T : List Nd} {h : Int} (ht : IsTab B w tb T) (hb : Below w.heap.size w w') : TabPost B tb w (T, h) (.returned (.int .i64 h)) w' := ⟨rfl, ht.below hb, .of_below hb⟩

def NewPost (w : World) (e : Ending) (w' : World) : Prop := ∃ tb, e = .returned (.pointer (some ⟨tb, 0, none⟩)) ∧ IsTab w.heap.size w' tb [] ∧ Below w.heap.size w w'
set_option maxHeartbeats 800000 in
theorem new_any (w : World) : Calls Tryd.prog 9 #[] w (NewPost w) := by
  have hmm := @run_makeMap Tryd.prog
  go_enter Tryd.func9, Tryd.ntmps9
  go_wp2_with fail
  go_ret
  have h1 : ((w.alloc (.map #[] 0)).alloc (.cells #[.slice none 0 0, .map (some w.heap.size)] 70)).heap[w.heap.size + 1]? = some (.cells #[.slice none 0 0, .map (some w.heap.size)] 70 (0, 0)) := heap_alloc2_new w _ _
  have h2 : ((w.alloc (.map #[] 0)).alloc (.cells #[.slice none 0 0, .map (some w.heap.size)] 70)).heap[w.heap.size]? = some (.map #[] 0) := heap_alloc2_old w _ _
  refine ⟨w.heap.size + 1, rfl, ⟨wfT_nil, by omega, _, w.heap.size, _, _, [], h1, Nat.le_refl _, h2, mapOk_nil, World.ownsRow_nil _ _ _ _, ⟨fun i n h => by simp at h, fun i n h => by simp at h, fun i n h => by simp at h⟩, fun _ => rfl⟩, ?_⟩
  exact ((Below.refl _ _).alloc (Nat.le_refl _) _).alloc (by simp) _

set_option maxHeartbeats 800000 in
theorem size_any {B tb : Nat} {T : List Nd} (w : World) (ht : IsTab B w tb T) : Calls Tryd.prog 62 #[.pointer (some ⟨tb, 0, none⟩)] w fun e w' => e = .returned (.int .i64 T.length) ∧ w = w' := by
  obtain ⟨hw, hB, v, mb, es, clock, cs, h1, hmb, h3, hm, hown, hcs⟩ := ht
  obtain ⟨A, cA, rfl⟩ := owned_slice hown
  have c0 : w.cell? ⟨tb, 0, none⟩ = some (.slice A T.length cA) := by rw [cell_of_row w tb 0 _ _ _ h1]; rfl
  have H1 := Lib.hid h1
  have H3 := Lib.hid h3
  clear h1 h3 hown hcs hm hw
  go_enter Tryd.func62, Tryd.ntmps62
  go_wp2
  go_ret
  exact ⟨rfl, rfl⟩

theorem good_secret (T : List Nd) : GoodN T.length T ⟨2, ByteArray.empty, []⟩ :=
  ⟨by simp, by decide, by simp, fun p hp => by simp at hp, fun h => rfl, fun _ => ⟨rfl, rfl⟩, fun _ => rfl, fun h => by simp at h, fun h => by simp at h, fun h => by simp at h, fun h => by simp at h, fun h => by simp at h, fun h => by simp at h⟩
theorem good_text (T : List Nd) {b : ByteArray} (h : b.size ≤ 2048) : GoodN T.length T ⟨1, b, []⟩ :=
  ⟨by simp, h, by simp, fun p hp => by simp at hp, fun h => rfl, fun h => by simp at h, fun h => by simp at h, fun h => by simp at h, fun h => by simp at h, fun h => by simp at h, fun h => by simp at h, fun h => by simp at h, fun h => by simp at h⟩

set_option maxHeartbeats 800000 in
theorem secret_any {B tb : Nat} {T : List Nd} (w : World) (ht : IsTab B w tb T) : Calls Tryd.prog 10 #[.pointer (some ⟨tb, 0, none⟩)] w (TabPost B tb w (secretT T)) := by
  have HT := Lib.hid ht; clear ht
  go_enter Tryd.func10, Tryd.ntmps10
  go_wp2_with fail
  refine (add_any (T := T) 2 _ none 0 0 [] w HT.out (good_secret T) (Rds.nil _ _ _)).mono ?_
  rintro e w1 ⟨rfl, ht1, hf1⟩
  have HT1 := Lib.hid ht1
  have HF1 := Lib.hid hf1
  clear ht1 hf1
  go_wp2_with fail
  go_ret
  exact ⟨rfl, HT1.out, HF1.out⟩

theorem run_bytes_string {B' : Nat} {A : Option Addr} {n c : Nat} {xs : List Int} {w : World} (hr : Rds B' w .u8 A n c xs) : (convert 22 9 (.slice A n c)).run Tryd.prog w = .ok (.string (strOfNums xs)) w := by
  have hl := hr.len
  by_cases h0 : n = 0
  · subst h0
    have : xs = [] := List.eq_nil_of_length_eq_zero hl
    subst this
    cases A with
    | none => exact run_convert_bytes_nil w 22 5 Tryd.underlying22 Tryd.underlying5 0 c 9 Tryd.underlying9
    | some a =>
      rw [run_convert_bytes_string w 22 9 5 _ 0 c Tryd.underlying22 Tryd.underlying5 Tryd.underlying9]
      simp [Conv.bytesToString, loadCells, loadCellsFrom, strOfNums]
      rfl
  · obtain ⟨b, o, rfl, hc⟩ := hr.cell.at_ (by omega)
    exact run_convert_bytes_arg w 22 5 Tryd.underlying22 Tryd.underlying5 b o n c xs hl (fun i hi => hc i (by omega)) 9 Tryd.underlying9

set_option maxHeartbeats 800000 in
set_option maxRecDepth 100000 in
theorem text_any {B B' tb : Nat} {T : List Nd} (A : Option Addr) (n c : Nat) (xs : List Int) (w : World) (ht : IsTab B w tb T) (hr : Rds B' w .u8 A n c xs) : Calls Tryd.prog 22 #[.pointer (some ⟨tb, 0, none⟩), .slice A n c] w (TabPost B tb w (textT T (strOfNums xs))) := by
  have HT := Lib.hid ht; clear ht
  have hl := Lib.hid hr.len
  have hsz : Hid ((strOfNums xs).size = n) := by show _ = _; rw [strOfNums_size, hr.len]
  by_cases hn : 2048 < n
  · have HR := Lib.hid hr; clear hr
    go_enter Tryd.func22, Tryd.ntmps22
    go_wp2_with fail
    go_ret
    unfold textT
    rw [if_neg (by rw [hsz.out]; omega)]
    exact tabPost_same HT.out (Below.refl _ _)
  have hconv := Lib.hid (run_bytes_string (A := A) (c := c) hr)
  have HR := Lib.hid hr; clear hr
  go_enter Tryd.func22, Tryd.ntmps22
  go_wp2_with ((with_reducible show wpList _ _ _ (Oper.mk _ (Op.convert 22 9 _) _ _ _ _ :: _) _ _); refine wp_convert rfl _ _ _ rfl rfl hconv.out ?_)
  refine (add_any (T := T) 1 (strOfNums xs) none 0 0 [] w HT.out (good_text T (by rw [hsz.out]; omega)) (Rds.nil _ _ _)).mono ?_
  rintro e w1 ⟨rfl, ht1, hf1⟩
  have HT1 := Lib.hid ht1
  have HF1 := Lib.hid hf1
  clear ht1 hf1
  go_wp2_with fail
  go_ret
  unfold textT
  rw [if_pos (by rw [hsz.out]; omega)]
  exact ⟨rfl, HT1.out, HF1.out⟩
end Go.Proofs.YtmaedahleenlgaaDoor

/- What Clone, Look, kinds, Contains and formed do. No condition. -/
set_option linter.unusedVariables false
set_option linter.unusedSimpArgs false
namespace Go.Proofs.YtmaedahleenlgaaDoor
open Go Go.RowKit Go.WideMaps

def ClonePost (xs : List Int) (w : World) (e : Ending) (w' : World) : Prop := ∃ v, e = .returned v ∧ OwnI w' w.heap.size .i64 v xs ∧ Below w.heap.size w w'
set_option maxHeartbeats 800000 in
set_option maxRecDepth 100000 in
theorem clone_any {B : Nat} (A : Option Addr) (n c : Nat) (xs : List Int) (w : World) (hr : Rds B w .i64 A n c xs) (hn : n ≤ 1000000) : Calls Tryd.prog 33 #[.slice A n c] w (ClonePost xs w) := by
  have hl := Lib.hid hr.len
  cases A with
  | none =>
    have h0 : n = 0 := by
      rcases Nat.eq_zero_or_pos n with h | h
      · exact h
      · obtain ⟨ad, e, _⟩ := hr.cell 0 (by have := hr.len; omega)
        cases e
    subst h0
    have hx : xs = [] := List.eq_nil_of_length_eq_zero hl.out
    subst hx
    have he := Lib.run_eql_slice_nil (P := Tryd.prog) w 38 29 none 0 c 0 0 Tryd.underlying38
    clear hr
    go_enter Tryd.func33, Tryd.ntmps33
    go_wp2_with fail
    go_ret
    exact ⟨_, rfl, OwnI.nil _ _ _, Below.refl _ _⟩
  | some a =>
    have he := Lib.run_eql_slice_nil (P := Tryd.prog) w 38 29 (some a) n c 0 0 Tryd.underlying38
    have HR := Lib.hid hr
    clear hr
    go_enter Tryd.func33, Tryd.ntmps33
    go_wp2_with (at_builtin; refine wp_app_term (xs := []) (ys := xs) rfl _ _ rfl rfl rfl (OwnI.empty (B := w.heap.size) (Nat.le_refl _) sp_term) ?_ hl.out ?_ ?_ ?_)
    · exact (HR.out.below (below_new _)).cell
    · simp
    · simp; omega
    intro v' w3 hv3 hg3 hb3
    try simp only [List.nil_append] at hv3
    have HV := Lib.hid hv3
    clear hv3 hg3
    go_wp2_with fail
    go_ret
    exact ⟨_, rfl, HV.out, ((Below.refl _ _).alloc (Nat.le_refl _) _).trans hb3⟩

theorem frozen_later {w wx : World} {a : Addr} (hb : Below w.heap.size w wx) (hl : a.block < w.heap.size) (h : w.frozen? a = false) : wx.frozen? a = false := (hb.frozen hl).trans h
/-- The term of a number; without one the empty one. -/
def nodeT (T : List Nd) (h : Int) : Nd := (getT T h).getD ⟨0, ByteArray.empty, []⟩
def LookPost (T : List Nd) (h : Int) (w : World) (e : Ending) (w' : World) : Prop :=
  ∃ A c, e = .returned (.tuple #[.agg #[.int .i64 (nodeT T h).kind, .string (nodeT T h).text, .slice A (nodeT T h).parts.length c], .bool (getT T h).isSome]) ∧ OwnI w' w.heap.size .i64 (.slice A (nodeT T h).parts.length c) (nodeT T h).parts ∧ Below w.heap.size w w'
theorem look_none {T : List Nd} {h : Int} (e : getT T h = none) {w w' : World} (hb : Below w.heap.size w w') : LookPost T h w (.returned (.tuple #[.agg #[.int .i64 0, .string ByteArray.empty, .slice none 0 0], .bool false])) w' := by
  unfold LookPost nodeT
  rw [e]
  exact ⟨none, 0, rfl, OwnI.nil _ _ _, hb⟩
theorem look_some {T : List Nd} {h : Int} {n : Nd} (e : getT T h = some n) {w w' : World} {A : Option Addr} {c : Nat} (ho : OwnI w' w.heap.size .i64 (.slice A n.parts.length c) n.parts) (hb : Below w.heap.size w w') :
    LookPost T h w (.returned (.tuple #[.agg #[.int .i64 n.kind, .string n.text, .slice A n.parts.length c], .bool true])) w' := by
  unfold LookPost nodeT
  rw [e]
  exact ⟨A, c, rfl, ho, hb⟩

set_option maxHeartbeats 1600000 in
set_option maxRecDepth 100000 in
theorem look_any {B tb : Nat} {T : List Nd} (h : Int) (w : World) (ht : IsTab B w tb T) (h0 : -9223372036854775808 ≤ h) (h1 : h ≤ 9223372036854775807) : Calls Tryd.prog 16 #[.pointer (some ⟨tb, 0, none⟩), .int .i64 h] w (LookPost T h w) := by
  obtain ⟨hw, hB, v, mb, es, clock, cs, g1, hmb, g3, hm, hown, hcs, -⟩ := ht
  obtain ⟨A, cA, rfl⟩ := owned_slice hown
  have c0 : w.cell? ⟨tb, 0, none⟩ = some (.slice A T.length cA) := by rw [cell_of_row w tb 0 _ _ _ g1]; rfl
  have htb : tb < w.heap.size := lt_of_get g1
  have hTl := hw.len
  have Hw := Lib.hid hw
  have Hown := Lib.hid hown
  have Hcs := Lib.hid hcs
  clear hw g1 g3 hm hown hcs
  by_cases hl : h < 1
  · have HN := Lib.hid (getT_none (T := T) (h := h) (by omega))
    go_enter Tryd.func16, Tryd.ntmps16
    go_wp2_with fail
    go_returns
    exact look_none HN.out (below_new _)
  by_cases hh : (T.length : Int) < h
  · have HN := Lib.hid (getT_none (T := T) (h := h) (by omega))
    go_enter Tryd.func16, Tryd.ntmps16
    go_wp2_with fail
    go_returns
    exact look_none HN.out (below_new _)
  obtain ⟨i, rfl⟩ : ∃ i : Nat, h = (i : Int) + 1 := ⟨(h - 1).toNat, by omega⟩
  have hi : i < T.length := by omega
  obtain ⟨n, hn⟩ : ∃ n, T[i]? = some n := ⟨_, List.getElem?_eq_getElem hi⟩
  have HG := Lib.hid ((getT_nat i).trans hn)
  have hgood := Lib.hid (Hw.out.good i n hn)
  obtain ⟨g, cap, e1, hfrm⟩ := Hown.out.form (by omega)
  cases e1
  obtain ⟨AP, cP, hp1, hp2⟩ := Hcs.out.parts i n hn
  have k0 : w.cell? ⟨g, i * 3, none⟩ = some (.int .i64 n.kind) := by rw [Hown.out.cellAt _ (by omega)]; exact Hcs.out.kind i n hn
  have k1 : w.cell? ⟨g, i * 3 + 1, none⟩ = some (.string n.text) := by rw [Hown.out.cellAt _ (by omega)]; exact Hcs.out.text i n hn
  have k2 : w.cell? ⟨g, i * 3 + 2, none⟩ = some (.slice AP n.parts.length cP) := by rw [Hown.out.cellAt _ (by omega)]; exact hp1
  have HP := Lib.hid hp2
  have hgl := hfrm.2
  have hi0 : (0 : Int) ≤ (i : Int) := by omega
  have hiT : (i : Int) < (T.length : Int) := by omega
  clear hp1 hp2 hn hfrm
  go_enter Tryd.func16, Tryd.ntmps16
  go_wp2_with fail
  have hmany := hgood.out.many
  go_region_law ((go_simp; go_at_call 33; refine (clone_any _ _ _ _ _ ((HP.out.below ((((Below.refl _ _).alloc (Nat.le_refl _) _).alloc (by simp) _)).drew)) (by omega)).mono ?_; rintro e w1 ⟨v, rfl, hv, hb1⟩; obtain ⟨A1, c1, rfl⟩ := hv.slice; have HV := Lib.hid hv; have HB1 := Lib.hid hb1; have q0 := cell_later hb1 (a := ⟨w.heap.size + 1, 0, none⟩) (v := .int .i64 n.kind) (by simp [go_sem]); have q1 := cell_later hb1 (a := ⟨w.heap.size + 1, 1, none⟩) (v := .string n.text) (by simp [go_sem]); have r0 := cell_later hb1 (a := ⟨w.heap.size, 0, none⟩) (v := .int .i64 0) (by simp [go_sem]); have r1 := cell_later hb1 (a := ⟨w.heap.size, 1, none⟩) (v := .string ⟨#[]⟩) (by simp [go_sem]); have r2 := cell_later hb1 (a := ⟨w.heap.size, 2, none⟩) (v := .slice none 0 0) (by simp [go_sem]); have z0 := frozen_later hb1 (a := ⟨w.heap.size, 0, none⟩) (by simp; omega) (by simp [go_sem]); have z1 := frozen_later hb1 (a := ⟨w.heap.size, 1, none⟩) (by simp; omega) (by simp [go_sem]); have z2 := frozen_later hb1 (a := ⟨w.heap.size, 2, none⟩) (by simp; omega) (by simp [go_sem]); clear hv hb1))
  all_goals
    have s0 := World.cell?_setCell_same w1 ⟨w.heap.size, 0, none⟩ (.int .i64 n.kind) r0
    have s1 := World.cell?_setCell_same (w1.setCell ⟨w.heap.size, 0, none⟩ (.int .i64 n.kind)) ⟨w.heap.size, 1, none⟩ (.string n.text) ((World.cell?_setCell_other _ _ _ _ (by simp)).trans r1)
    have s2 := World.cell?_setCell_same ((w1.setCell ⟨w.heap.size, 0, none⟩ (.int .i64 n.kind)).setCell ⟨w.heap.size, 1, none⟩ (.string n.text)) ⟨w.heap.size, 2, none⟩ (.slice A1 n.parts.length c1) ((World.cell?_setCell_other _ _ _ _ (by simp)).trans ((World.cell?_setCell_other _ _ _ _ (by simp)).trans r2))
    clear r0 r1 r2 q0 q1 z0 z1 z2
    go_wp2_with fail
    (try simp only [Exit.inBlock, Exit.then])
    refine bodyPost_ret (v := .tuple #[.agg #[.int .i64 n.kind, .string n.text, .slice A1 n.parts.length c1], .bool true]) (by simp [results, Tryd.results16, go_sem, s0, s1, s2]) rfl ?_
    refine look_some HG.out ?_ ?_
    · refine OwnI.mono (B := w.heap.size + 2) ?_ (by omega)
      exact ((((HV.out.mono (by simp)).setBelow (by simp) _).setBelow (by simp) _).setBelow (by simp) _)
    · exact ((((below_next ((((Below.refl _ _).alloc (Nat.le_refl _) _).alloc (by simp) _).drew) (by simp; omega) HB1.out).setCell (Nat.le_refl _) _).setCell (Nat.le_refl _) _).setCell (Nat.le_refl _) _)
end Go.Proofs.YtmaedahleenlgaaDoor

/- What kinds, Contains and formed do. No condition. -/
set_option linter.unusedVariables false
set_option linter.unusedSimpArgs false
namespace Go.Proofs.YtmaedahleenlgaaDoor
open Go Go.RowKit Go.WideMaps

/-- All fit an int. -/
def I64 (xs : List Int) : Prop := ∀ x ∈ xs, -9223372036854775808 ≤ x ∧ x ≤ 9223372036854775807
theorem I64.nth {xs : List Int} (h : I64 xs) (j : Nat) : -9223372036854775808 ≤ nth xs j ∧ nth xs j ≤ 9223372036854775807 := by
  by_cases hj : j < xs.length
  · exact h _ (nth_mem hj)
  · simp [Go.Proofs.YtmaedahleenlgaaDoor.nth, List.getElem?_eq_none (show xs.length ≤ j by omega)]
theorem nodeT_kind (T : List Nd) (h : Int) : (nodeT T h).kind = kindT T h := by
  unfold nodeT kindT
  cases getT T h <;> rfl

def KindsPost (T : List Nd) (xs : List Int) (w : World) (e : Ending) (w' : World) : Prop := ∃ v, e = .returned v ∧ OwnI w' w.heap.size .i64 v (xs.map (kindT T)) ∧ Below w.heap.size w w'
set_option maxHeartbeats 1600000 in
set_option maxRecDepth 100000 in
theorem kinds_any {B B' tb : Nat} {T : List Nd} (A : Option Addr) (n c : Nat) (xs : List Int) (w : World) (ht : IsTab B w tb T) (hr : Rds B' w .i64 A n c xs) (hx : I64 xs) (hn : n ≤ 1000000) :
    Calls Tryd.prog 48 #[.pointer (some ⟨tb, 0, none⟩), .slice A n c] w (KindsPost T xs w) := by
  have HT := Lib.hid ht; clear ht
  have hl := Lib.hid hr.len
  have HR := Lib.hid hr; clear hr
  have HX := Lib.hid hx; clear hx
  go_enter Tryd.func48, Tryd.ntmps48
  go_wp2_with fail
  go_loopw [5, 12] (fun v i wr => ∃ k : Nat, k ≤ n ∧ i = .int .i64 k ∧ OwnI wr w.heap.size .i64 v ((xs.take k).map (kindT T)) ∧ Below w.heap.size w wr) (fun _ i _ => n - (intOf i).toNat)
  case atStart => exact ⟨0, Nat.zero_le _, rfl, OwnI.nil _ _ _, Below.refl _ _⟩
  case round =>
    obtain ⟨k, hk, rfl, hown, hb⟩ := hrel
    have HO := Lib.hid hown
    have HB := Lib.hid hb
    clear hown hb
    by_cases hlt : k < n
    · have hR := HR.out.below HB.out
      obtain ⟨b, o, rfl, hcx⟩ := RdI.at_ hR.cell (by have := hl.out; omega)
      have g1 := hcx k (by have := hl.out; omega)
      clear hcx hR
      have hki := HX.out.nth k
      go_wp2_with fail
      refine (look_any (nth xs k) wr (HT.out.below HB.out) hki.1 hki.2).mono ?_
      rintro e w1 ⟨A1, c1, rfl, ho1, hb1⟩
      have hb1s := hb1.size
      have HB1 := Lib.hid (below_step HB.out hb1)
      have HO1 := Lib.hid (HO.out.below hb1)
      rw [nodeT_kind]
      clear ho1 hb1
      generalize (nodeT T (nth xs k)).text = tx
      generalize (nodeT T (nth xs k)).parts.length = ln
      go_wp2_with (at_builtin; refine wp_app_int (ys := [kindT T (nth xs k)]) rfl _ _ rfl rfl rfl ((HO1.out.below (below_new _)).below (below_new _)) (RdI.one_at _ .i64 _ _ (World.size_alloc _ _)) rfl ?_ ?_ ?_)
      · have := HB1.out.size; simp; omega
      · have := hl.out; simp; omega
      intro v' w3 hv3 hg3 hb3
      have HV := Lib.hid hv3
      have HB3 := Lib.hid (((HB1.out.alloc HB1.out.size _).alloc (by have := HB1.out.size; simp; omega) _).trans hb3)
      clear hv3 hg3 hb3
      go_wp2_with fail
      go_roundw
      case rel => exact ⟨k + 1, by omega, by go_num, by have := HV.out; rw [take_nth_succ (by have := hl.out; omega)]; simpa using this, HB3.out⟩
      case measure => simp [intOf]; omega
    · go_wp2_with fail
      go_ret
      refine ⟨_, rfl, ?_, HB.out⟩
      have := HO.out
      rwa [List.take_of_length_le (by have := hl.out; omega)] at this

def ZeroPost (xs : List Int) (w : World) (e : Ending) (w' : World) : Prop := ∃ r : Int, e = .returned (.int .i64 r) ∧ -1 ≤ r ∧ (r = -1 ↔ (0 : Int) ∉ xs) ∧ w = w'
theorem no_zero {xs : List Int} {n : Nat} (hn : xs.length = n) (h : ∀ j, j < n → nth xs j ≠ 0) : (0 : Int) ∉ xs := by
  intro hx
  obtain ⟨j, hj⟩ := List.mem_iff_getElem?.1 hx
  have hl := (List.getElem?_eq_some_iff.1 hj).1
  rw [nth_lt hl] at hj
  exact h j (by omega) (by simpa using hj)
set_option maxHeartbeats 800000 in
set_option maxRecDepth 100000 in
theorem index_zero {B : Nat} (A : Option Addr) (n c : Nat) (xs : List Int) (w : World) (h : Rds B w .i64 A n c xs) :
    Calls Tryd.prog 57 #[.slice A n c, .int .i64 0] w (ZeroPost xs w) := by
  have Hl := Lib.hid h.len
  have Hc := Lib.hid h.cell
  have hm : n ≤ 9223372036854775807 := Nat.le_trans h.cap h.max
  clear h
  go_enter Tryd.func57, Tryd.ntmps57
  go_wp2_with fail
  go_loop [8] (fun i => ∃ k : Nat, k ≤ n ∧ i = .int .i64 k ∧ Hid (∀ j, j < k → nth xs j ≠ 0)) (fun i => n - (intOf i).toNat)
  case atStart => exact ⟨0, Nat.zero_le _, rfl, fun j hj => by omega⟩
  case round =>
    obtain ⟨k, hk, rfl, hq⟩ := hrel
    by_cases hlt : k < n
    · obtain ⟨b, o, rfl, hcx⟩ := RdI.at_ Hc.out (by have := Hl.out; omega)
      have g1 := hcx k (by have := Hl.out; omega)
      clear hcx
      by_cases hz : nth xs k = 0
      · have hz' : (0 == nth xs k) = true := by simp [hz]
        have HZ := Lib.hid hz; clear hz
        go_wp2_with fail
        go_ret
        exact ⟨k, rfl, by omega, ⟨fun h => by omega, fun h => (h (by rw [← HZ.out]; exact nth_mem (by have := Hl.out; omega))).elim⟩, rfl⟩
      · have hz' : (0 == nth xs k) = false := by simp; exact fun h => hz h.symm
        have HZ := Lib.hid hz; clear hz
        go_wp2_with fail
        go_round
        case rel => exact ⟨k + 1, by omega, by go_num, fun j hj => by
          rcases Nat.lt_or_ge j k with h | h
          · exact hq.out j h
          · obtain rfl : j = k := by omega
            exact HZ.out⟩
        case measure => simp [intOf]; omega
    · go_wp2_with fail
      go_ret
      exact ⟨-1, rfl, by omega, ⟨fun _ => no_zero Hl.out fun j hj => hq.out j (by omega), fun _ => rfl⟩, rfl⟩
def HasZeroPost (xs : List Int) (w : World) (e : Ending) (w' : World) : Prop := e = .returned (.bool (decide ((0 : Int) ∈ xs))) ∧ w = w'
set_option maxHeartbeats 400000 in
theorem contains_zero {B : Nat} (A : Option Addr) (n c : Nat) (xs : List Int) (w : World) (h : Rds B w .i64 A n c xs) :
    Calls Tryd.prog 49 #[.slice A n c, .int .i64 0] w (HasZeroPost xs w) := by
  have H := Lib.hid h; clear h
  go_enter Tryd.func49, Tryd.ntmps49
  go_wp2_with fail
  refine (index_zero A n c xs w H.out).mono ?_
  rintro e w1 ⟨r, rfl, hr, hi, rfl⟩
  have HI := Lib.hid hi; clear hi
  go_wp2_with fail
  go_ret
  refine ⟨?_, rfl⟩
  by_cases h : r = -1
  · have := HI.out.1 h
    subst h
    rw [decide_eq_false this]
    rfl
  · have h2 : (0 : Int) ∈ xs := Classical.byContradiction fun k => h (HI.out.2 k)
    rw [decide_eq_true h2, decide_eq_true (show 0 ≤ r by omega)]
    rfl
end Go.Proofs.YtmaedahleenlgaaDoor

/- How structs of one-cell fields that read as data stand in memory: field by field. No condition. -/
set_option linter.unusedVariables false
set_option linter.unusedSimpArgs false
namespace Go.Proofs.YtmaedahleenlgaaDoor
open Go Go.RowKit Go.ChangeShapes Go.WideShapes Go.ChangeAt

theorem field_trod {H : Type} {enc : TypeId × Value → H} {P : Program} {w : World} {base : Nat} {spare : Nat → Bool} {held : Bool} {e : TypeId} {fs : Array Field} {fuel : Nat} {cs : List Value} {x : DataW H × List MemPlace}
    (he : P.underlying e = some (.struct fs)) (hone : Deep.oneCellFields P fs = true) (h : DataW.trod enc P w base spare held fuel e cs = some x) (hl : cs.length = fs.size) (j : Nat) (f : Field) (hj : fs[j]? = some f) :
    ∃ v y n, cs[j]? = some v ∧ DataW.trod enc P w base spare held n f.type [v] = some y := by
  obtain ⟨ys, n, _, _, _, hyl, hf⟩ := DataW.trod_struct he h
  obtain ⟨ho, hk⟩ := Deep.hone_of hone j f hj
  have hjl : j < fs.size := (Array.getElem?_eq_some_iff.1 hj).1
  have h1 := hf j f hj
  rw [ho, hk] at h1
  have hl' : j < cs.length := by omega
  have h2 : (cs.drop j).take 1 = [cs[j]] := by rw [List.drop_eq_getElem_cons hl']; rfl
  rw [h2, List.getElem?_eq_getElem (show j < ys.length by omega)] at h1
  exact ⟨cs[j], _, n, List.getElem?_eq_getElem hl', h1⟩
theorem cell_i64 {H : Type} {enc : TypeId × Value → H} {P : Program} {w : World} {base : Nat} {spare : Nat → Bool} {held : Bool} {t : TypeId} {fuel : Nat} {v : Value} {x : DataW H × List MemPlace} (ht : P.underlying t = some (.int .i64))
    (h : DataW.trod enc P w base spare held fuel t [v] = some x) : ∃ n, v = .int .i64 n ∧ -9223372036854775808 ≤ n ∧ n ≤ 9223372036854775807 := by
  obtain ⟨n, hv, _, hw⟩ := DataW.trod_int ht h
  have b := bounds_i64 hw
  exact ⟨n, by simpa using hv, by omega, by omega⟩
theorem cell_bool {H : Type} {enc : TypeId × Value → H} {P : Program} {w : World} {base : Nat} {spare : Nat → Bool} {held : Bool} {t : TypeId} {fuel : Nat} {v : Value} {x : DataW H × List MemPlace} (ht : P.underlying t = some .bool)
    (h : DataW.trod enc P w base spare held fuel t [v] = some x) : ∃ b, v = .bool b := by
  obtain ⟨b, hv, _⟩ := DataW.trod_bool ht h
  exact ⟨b, by simpa using hv⟩
theorem cell_string {H : Type} {enc : TypeId × Value → H} {P : Program} {w : World} {base : Nat} {spare : Nat → Bool} {held : Bool} {t : TypeId} {fuel : Nat} {v : Value} {x : DataW H × List MemPlace} (ht : P.underlying t = some .string)
    (h : DataW.trod enc P w base spare held fuel t [v] = some x) : ∃ s : ByteArray, v = .string s ∧ s.size ≤ maxLen := by
  obtain ⟨s, hv, _, hs⟩ := DataW.trod_string ht h
  exact ⟨s, by simpa using hv, hs⟩
/-- A cell that holds a slice of whole numbers. -/
theorem cell_rds {H : Type} {enc : TypeId × Value → H} {P : Program} {w : World} {base : Nat} {held : Bool} {t e : TypeId} {k : IntKind} {fuel : Nat} {v : Value} {x : DataW H × List MemPlace} (ht : P.underlying t = some (.slice e)) (he : P.underlying e = some (.int k)) (hc : P.cellsOf e = 1)
    (h : DataW.trod enc P w base (fun _ => true) held fuel t [v] = some x) : ∃ A c xs, v = .slice A xs.length c ∧ Rds w.heap.size w k A xs.length c xs ∧ ∀ y ∈ xs, (Lit.int k y).wf = true := by
  rcases open_ints ht he hc h with ⟨hcs, _⟩ | ⟨a, l, c, zs, hcs, _, hl, hm, hz, _, hcell, hwz⟩
  · obtain rfl : v = .slice none 0 0 := by simpa using hcs
    exact ⟨none, 0, [], rfl, Rds.nil _ _ _, fun y hy => by simp at hy⟩
  · obtain rfl : v = .slice (some a) l c := by simpa using hcs
    have hz' : zs.length = c := by simpa using hz
    have hlen : (zs.take l).length = l := by simp; omega
    have hn : ∀ j, j < l → nth (zs.take l) j = zs.getD j 0 := fun j hj => by rw [nth_take hj]; rfl
    refine ⟨some a, c, zs.take l, by rw [hlen], ⟨rfl, by omega, by simpa only [maxLen] using hm, fun j hj => ?_, fun p b e => ?_⟩, fun y hy => hwz y (List.mem_of_mem_take hy)⟩
    · have hj' : j < l := by simp at hj; omega
      refine ⟨_, rfl, ?_⟩
      rw [hn j hj']
      exact hcell j (by omega)
    · cases e
      have h0 := hcell 0 (by omega)
      have := World.block_lt_of_cell? _ _ h0
      rw [add_block] at this
      exact ⟨this, .inl this⟩
theorem wf_i64 {x : Int} (h : (Lit.int .i64 x).wf = true) : -9223372036854775808 ≤ x ∧ x ≤ 9223372036854775807 := by
  have := bounds_i64 h
  omega
theorem wf_byte {x : Int} (h : (Lit.int .u8 x).wf = true) : 0 ≤ x ∧ x ≤ 255 := bounds_u8 h
/-- A struct by value, field by field. -/
theorem agg_fields {H : Type} {enc : TypeId × Value → H} {P : Program} {w : World} {r : Reach} {b0 base : Nat} {spare : Nat → Bool} {held : Bool} {t : TypeId} {fs : Array Field} {v : Value} {d : DataW H} {p : List MemPlace} (he : P.underlying t = some (.struct fs)) (hone : Deep.oneCellFields P fs = true) (hC : P.cellsOf t = fs.size)
    (hv : Value.okWide P w r b0 t v) (h : DataW.Trod enc P w base spare held t v d p) :
    ∃ cs : Array Value, v = .agg cs ∧ cs.size = fs.size ∧ ∀ (j : Nat) (f : Field), fs[j]? = some f → ∃ u y n, cs[j]? = some u ∧ DataW.trod enc P w base spare held n f.type [u] = some y := by
  obtain ⟨cs, rfl, hsz⟩ := okWide_struct he hv
  obtain ⟨fuel, hf⟩ := h
  refine ⟨cs, rfl, by omega, fun j f hj => ?_⟩
  have hl : (Value.agg cs).cells.toList.length = fs.size := by simp [Value.cells]; omega
  obtain ⟨u, y, n, e, ht⟩ := field_trod he hone hf hl j f hj
  exact ⟨u, y, n, by simpa [Value.cells] using e, ht⟩
theorem arr3 {cs : Array Value} {a b c : Value} (h : cs.size = 3) (h0 : cs[0]? = some a) (h1 : cs[1]? = some b) (h2 : cs[2]? = some c) : cs = #[a, b, c] := by
  obtain ⟨l⟩ := cs
  match l, h with
  | [x, y, z], _ => simp at h0 h1 h2; rw [h0, h1, h2]
theorem arr5 {cs : Array Value} {a b c d e : Value} (h : cs.size = 5) (h0 : cs[0]? = some a) (h1 : cs[1]? = some b) (h2 : cs[2]? = some c) (h3 : cs[3]? = some d) (h4 : cs[4]? = some e) : cs = #[a, b, c, d, e] := by
  obtain ⟨l⟩ := cs
  match l, h with
  | [x, y, z, u, v], _ => simp at h0 h1 h2 h3 h4; rw [h0, h1, h2, h3, h4]
end Go.Proofs.YtmaedahleenlgaaDoor

/- Plain: numbers of one to eight bytes (layer 1). No condition. -/
set_option linter.unusedVariables false
set_option linter.unusedSimpArgs false
namespace Go.Proofs.YtmaedahleenlgaaDoor
open Go Go.RowKit

/-- A number's size; 0: it is none. -/
def sizeV (n : Int) : Nat := if n < 0 ∨ 4611686018427387903 < n then 0 else if n < 64 then 1 else if n < 16384 then 2 else if n < 1073741824 then 4 else 8
theorem sizeV_none {n : Int} (h : n < 0 ∨ 4611686018427387903 < n) : sizeV n = 0 := if_pos h
theorem sizeV_one {n : Int} (h0 : 0 ≤ n) (h1 : n < 64) : sizeV n = 1 := by unfold sizeV; rw [if_neg (by omega), if_pos h1]
theorem sizeV_two {n : Int} (h0 : 64 ≤ n) (h1 : n < 16384) : sizeV n = 2 := by unfold sizeV; rw [if_neg (by omega), if_neg (by omega), if_pos h1]
theorem sizeV_four {n : Int} (h0 : 16384 ≤ n) (h1 : n < 1073741824) : sizeV n = 4 := by unfold sizeV; rw [if_neg (by omega), if_neg (by omega), if_neg (by omega), if_pos h1]
theorem sizeV_eight {n : Int} (h0 : 1073741824 ≤ n) (h1 : n ≤ 4611686018427387903) : sizeV n = 8 := by unfold sizeV; rw [if_neg (by omega), if_neg (by omega), if_neg (by omega), if_neg (by omega)]
theorem sizeV_cases (n : Int) : (sizeV n = 0 ∧ (n < 0 ∨ 4611686018427387903 < n)) ∨ (sizeV n = 1 ∧ 0 ≤ n ∧ n < 64) ∨ (sizeV n = 2 ∧ 64 ≤ n ∧ n < 16384) ∨ (sizeV n = 4 ∧ 16384 ≤ n ∧ n < 1073741824) ∨ (sizeV n = 8 ∧ 1073741824 ≤ n ∧ n ≤ 4611686018427387903) := by
  by_cases h : n < 0 ∨ 4611686018427387903 < n
  · exact .inl ⟨sizeV_none h, h⟩
  by_cases h1 : n < 64
  · exact .inr (.inl ⟨sizeV_one (by omega) h1, by omega, h1⟩)
  by_cases h2 : n < 16384
  · exact .inr (.inr (.inl ⟨sizeV_two (by omega) h2, by omega, h2⟩))
  by_cases h3 : n < 1073741824
  · exact .inr (.inr (.inr (.inl ⟨sizeV_four (by omega) h3, by omega, h3⟩)))
  · exact .inr (.inr (.inr (.inr ⟨sizeV_eight (by omega) (by omega), by omega, by omega⟩)))
theorem sizeV_pos {n : Int} : sizeV n ≠ 0 ↔ 0 ≤ n ∧ n ≤ 4611686018427387903 := by
  rcases sizeV_cases n with h | h | h | h | h <;> omega
/-- A number's bytes. -/
def varB (n : Int) : List Int :=
  if sizeV n = 1 then [n]
  else if sizeV n = 2 then [n / 256 + 64, n % 256]
  else if sizeV n = 4 then [n / 16777216 + 128, n / 65536 % 256, n / 256 % 256, n % 256]
  else if sizeV n = 8 then [n / 72057594037927936 + 192, n / 281474976710656 % 256, n / 1099511627776 % 256, n / 4294967296 % 256, n / 16777216 % 256, n / 65536 % 256, n / 256 % 256, n % 256]
  else []
theorem varB_none {n : Int} (h : sizeV n = 0) : varB n = [] := by unfold varB; rw [h]; rfl
theorem varB_one {n : Int} (h : sizeV n = 1) : varB n = [n] := by unfold varB; rw [h]; rfl
theorem varB_two {n : Int} (h : sizeV n = 2) : varB n = [n / 256 + 64, n % 256] := by unfold varB; rw [h]; rfl
theorem varB_four {n : Int} (h : sizeV n = 4) : varB n = [n / 16777216 + 128, n / 65536 % 256, n / 256 % 256, n % 256] := by unfold varB; rw [h]; rfl
theorem varB_eight {n : Int} (h : sizeV n = 8) : varB n = [n / 72057594037927936 + 192, n / 281474976710656 % 256, n / 1099511627776 % 256, n / 4294967296 % 256, n / 16777216 % 256, n / 65536 % 256, n / 256 % 256, n % 256] := by unfold varB; rw [h]; rfl
theorem varB_len (n : Int) : (varB n).length = sizeV n := by
  rcases sizeV_cases n with ⟨h, _⟩ | ⟨h, _⟩ | ⟨h, _⟩ | ⟨h, _⟩ | ⟨h, _⟩
  · rw [varB_none h, h]; rfl
  · rw [varB_one h, h]; rfl
  · rw [varB_two h, h]; rfl
  · rw [varB_four h, h]; rfl
  · rw [varB_eight h, h]; rfl
theorem varB_byt (n : Int) : Byt (varB n) := by
  rcases sizeV_cases n with ⟨h, h1⟩ | ⟨h, h1⟩ | ⟨h, h1⟩ | ⟨h, h1⟩ | ⟨h, h1⟩
  · rw [varB_none h]; intro x hx; simp at hx
  · rw [varB_one h]; intro x hx; simp at hx; omega
  · rw [varB_two h]; intro x hx; simp at hx; omega
  · rw [varB_four h]; intro x hx; simp at hx; omega
  · rw [varB_eight h]; intro x hx; simp at hx; omega
/-- How many bytes a first byte tells. -/
def sizeOfB (x : Int) : Nat := if x < 64 then 1 else if x < 128 then 2 else if x < 192 then 4 else 8
def beF (a : Int) (xs : List Int) : Int := xs.foldl (fun a x => a * 256 + x) a
/-- A number, its size, an error's number. -/
def readV (b : List Int) : Int × Nat × Int :=
  if b.length = 0 then (0, 0, 2)
  else if b.length < sizeOfB (nth b 0) then (0, 0, 2)
  else if sizeV (beF (nth b 0 % 64) ((b.take (sizeOfB (nth b 0))).drop 1)) ≠ sizeOfB (nth b 0) then (0, 0, 3)
  else (beF (nth b 0 % 64) ((b.take (sizeOfB (nth b 0))).drop 1), sizeOfB (nth b 0), 0)
theorem readV_varB {n : Int} (h : sizeV n ≠ 0) (r : List Int) : readV (varB n ++ r) = (n, sizeV n, 0) := by
  rcases sizeV_cases n with ⟨k, h1⟩ | ⟨k, h1, h2⟩ | ⟨k, h1, h2⟩ | ⟨k, h1, h2⟩ | ⟨k, h1, h2⟩
  · exact absurd k h
  · rw [varB_one k]
    have hs : sizeOfB n = 1 := if_pos h2
    have hb : beF (n % 64) [] = n := by simp [beF]; omega
    simp only [readV, List.cons_append, List.nil_append, List.length_cons, nth, List.getD_cons_zero, hs, List.take_succ_cons, List.take_zero, List.drop_succ_cons, List.drop_zero, hb]
    rw [if_neg (by omega), if_neg (by omega), if_neg (by simp [k]), k]
  · rw [varB_two k]
    have hs : sizeOfB (n / 256 + 64) = 2 := by unfold sizeOfB; rw [if_neg (by omega), if_pos (by omega)]
    have hb : beF ((n / 256 + 64) % 64) [n % 256] = n := by simp [beF]; omega
    simp only [readV, List.cons_append, List.nil_append, List.length_cons, nth, List.getD_cons_zero, hs, List.take_succ_cons, List.take_zero, List.drop_succ_cons, List.drop_zero, hb]
    rw [if_neg (by omega), if_neg (by omega), if_neg (by simp [k]), k]
  · rw [varB_four k]
    have hs : sizeOfB (n / 16777216 + 128) = 4 := by unfold sizeOfB; rw [if_neg (by omega), if_neg (by omega), if_pos (by omega)]
    have hb : beF ((n / 16777216 + 128) % 64) [n / 65536 % 256, n / 256 % 256, n % 256] = n := by simp only [beF, List.foldl_cons, List.foldl_nil]; omega
    simp only [readV, List.cons_append, List.nil_append, List.length_cons, nth, List.getD_cons_zero, hs, List.take_succ_cons, List.take_zero, List.drop_succ_cons, List.drop_zero, hb]
    rw [if_neg (by omega), if_neg (by omega), if_neg (by simp [k]), k]
  · rw [varB_eight k]
    have hs : sizeOfB (n / 72057594037927936 + 192) = 8 := by unfold sizeOfB; rw [if_neg (by omega), if_neg (by omega), if_neg (by omega)]
    have hb : beF ((n / 72057594037927936 + 192) % 64) [n / 281474976710656 % 256, n / 1099511627776 % 256, n / 4294967296 % 256, n / 16777216 % 256, n / 65536 % 256, n / 256 % 256, n % 256] = n := by simp only [beF, List.foldl_cons, List.foldl_nil]; omega
    simp only [readV, List.cons_append, List.nil_append, List.length_cons, nth, List.getD_cons_zero, hs, List.take_succ_cons, List.take_zero, List.drop_succ_cons, List.drop_zero, hb]
    rw [if_neg (by omega), if_neg (by omega), if_neg (by simp [k]), k]
theorem readV_err {b : List Int} {n : Int} {s : Nat} {e : Int} (h : readV b = (n, s, e)) : (e = 0 ∧ s ≠ 0 ∧ s = sizeV n ∧ s ≤ b.length) ∨ ((e = 2 ∨ e = 3) ∧ n = 0 ∧ s = 0) := by
  have hp : sizeOfB (nth b 0) ≠ 0 := by unfold sizeOfB; split <;> (try split) <;> (try split) <;> omega
  unfold readV at h
  split at h
  · simp only [Prod.mk.injEq] at h; omega
  split at h
  · simp only [Prod.mk.injEq] at h; omega
  split at h
  · simp only [Prod.mk.injEq] at h; omega
  · rename_i h1 h2 h3
    simp only [Prod.mk.injEq] at h
    obtain ⟨rfl, rfl, rfl⟩ := h
    left
    refine ⟨rfl, hp, ?_, by omega⟩
    exact (Classical.byContradiction fun k => h3 k : sizeV _ = sizeOfB _).symm
end Go.Proofs.YtmaedahleenlgaaDoor

/- Plain: three numbers, one behind the other (layer 17). No condition. -/
set_option linter.unusedVariables false
set_option linter.unusedSimpArgs false
namespace Go.Proofs.YtmaedahleenlgaaDoor
open Go Go.RowKit

def rd1 (xs : List Int) : Int × Nat × Int := readV xs
def rd2 (xs : List Int) : Int × Nat × Int := readV (xs.drop (rd1 xs).2.1)
def rd3 (xs : List Int) : Int × Nat × Int := readV (xs.drop ((rd1 xs).2.1 + (rd2 xs).2.1))
def readT (xs : List Int) : Option (Int × Int × Int) :=
  if (rd1 xs).2.2 = 0 ∧ (rd2 xs).2.2 = 0 ∧ (rd3 xs).2.2 = 0 ∧ (rd1 xs).2.1 + (rd2 xs).2.1 + (rd3 xs).2.1 = xs.length then some ((rd1 xs).1, (rd2 xs).1, (rd3 xs).1) else none
def tkV (xs : List Int) : Int × Int × Int := (readT xs).getD (0, 0, 0)
theorem readT_no {xs : List Int} (h : ¬ ((rd1 xs).2.2 = 0 ∧ (rd2 xs).2.2 = 0 ∧ (rd3 xs).2.2 = 0 ∧ (rd1 xs).2.1 + (rd2 xs).2.1 + (rd3 xs).2.1 = xs.length)) : readT xs = none := if_neg h
theorem readT_yes {xs : List Int} (h : (rd1 xs).2.2 = 0 ∧ (rd2 xs).2.2 = 0 ∧ (rd3 xs).2.2 = 0 ∧ (rd1 xs).2.1 + (rd2 xs).2.1 + (rd3 xs).2.1 = xs.length) : readT xs = some ((rd1 xs).1, (rd2 xs).1, (rd3 xs).1) := if_pos h
def textV (v t l : Int) : List Int := if sizeV v = 0 ∨ sizeV t = 0 ∨ sizeV l = 0 then [] else varB v ++ varB t ++ varB l
theorem textV_no {v t l : Int} (h : sizeV v = 0 ∨ sizeV t = 0 ∨ sizeV l = 0) : textV v t l = [] := if_pos h
theorem textV_yes {v t l : Int} (h : ¬ (sizeV v = 0 ∨ sizeV t = 0 ∨ sizeV l = 0)) : textV v t l = varB v ++ varB t ++ varB l := if_neg h
theorem textV_len {v t l : Int} (h : ¬ (sizeV v = 0 ∨ sizeV t = 0 ∨ sizeV l = 0)) : (textV v t l).length = sizeV v + sizeV t + sizeV l := by
  rw [textV_yes h]; simp [varB_len]; omega
theorem sizeV_le (n : Int) : sizeV n ≤ 8 := by rcases sizeV_cases n with h | h | h | h | h <;> omega
theorem textV_byt (v t l : Int) : Byt (textV v t l) := by
  unfold textV
  split
  · intro x hx; simp at hx
  · intro x hx
    simp only [List.mem_append] at hx
    rcases hx with (hx | hx) | hx
    · exact varB_byt _ x hx
    · exact varB_byt _ x hx
    · exact varB_byt _ x hx
theorem readT_textV {v t l : Int} (h : ¬ (sizeV v = 0 ∨ sizeV t = 0 ∨ sizeV l = 0)) : readT (textV v t l) = some (v, t, l) := by
  have hv : sizeV v ≠ 0 := fun k => h (.inl k)
  have ht : sizeV t ≠ 0 := fun k => h (.inr (.inl k))
  have hl : sizeV l ≠ 0 := fun k => h (.inr (.inr k))
  have e := textV_yes h
  have r1 : rd1 (textV v t l) = (v, sizeV v, 0) := by
    rw [rd1, e, List.append_assoc]; exact readV_varB hv _
  have r2 : rd2 (textV v t l) = (t, sizeV t, 0) := by
    rw [rd2, r1, e, List.append_assoc]
    show readV (List.drop (sizeV v) _) = _
    rw [← varB_len v, List.drop_left]
    exact readV_varB ht _
  have r3 : rd3 (textV v t l) = (l, sizeV l, 0) := by
    rw [rd3, r1, r2, e]
    show readV (List.drop (sizeV v + sizeV t) _) = _
    rw [show sizeV v + sizeV t = (varB v ++ varB t).length from by simp [varB_len], List.drop_left]
    have := readV_varB hl []
    rwa [List.append_nil] at this
  rw [readT_yes (by rw [r1, r2, r3, textV_len h]; exact ⟨rfl, rfl, rfl, rfl⟩), r1, r2, r3]
/-- What a read number is. -/
theorem rd_ok {xs : List Int} (h : (readV xs).2.2 = 0) : (readV xs).2.1 ≤ xs.length ∧ 0 < (readV xs).2.1 ∧ (readV xs).2.1 = sizeV (readV xs).1 := by
  rcases readV_err (b := xs) (n := (readV xs).1) (s := (readV xs).2.1) (e := (readV xs).2.2) rfl with ⟨_, h2, h3, h4⟩ | ⟨h1, _⟩
  · exact ⟨h4, by omega, h3⟩
  · omega
theorem readV_size {xs : List Int} : (readV xs).2.1 ≤ xs.length := by
  rcases readV_err (b := xs) (n := (readV xs).1) (s := (readV xs).2.1) (e := (readV xs).2.2) rfl with ⟨_, h2, h3, h4⟩ | ⟨h1, h2, h3⟩
  · exact h4
  · omega
end Go.Proofs.YtmaedahleenlgaaDoor

/- Plain: a sorted list's Compact is as long as the list just if no two of it are alike. No condition. -/
set_option linter.unusedVariables false
set_option linter.unusedSimpArgs false
namespace Go.Proofs.YtmaedahleenlgaaDoor
open Go Go.Lib

theorem filter_len {α : Type} (p : α → Bool) : ∀ l : List α, (l.filter p).length = l.length ↔ ∀ x ∈ l, p x = true
  | [] => by simp
  | a :: l => by
    have ih := filter_len p l
    have hle := List.length_filter_le p l
    by_cases h : p a = true
    · rw [List.filter_cons_of_pos h]
      simp [ih, h]
    · rw [List.filter_cons_of_neg h]
      constructor
      · intro k; simp at k; omega
      · intro k; exact absurd (k a (by simp)) h
theorem compact_len {s : List Int} : (compactUpTo s.toArray s.length).length = s.length ↔ ∀ j, 0 < j → j < s.length → s[j]! ≠ s[j-1]! := by
  unfold compactUpTo
  rw [List.length_map]
  have := filter_len (keeps s.toArray) (List.range s.length)
  rw [List.length_range] at this
  rw [this]
  constructor
  · intro h j h0 hj
    have := h j (List.mem_range.2 hj)
    unfold keeps at this
    simp at this
    rcases this with k | k
    · omega
    · simpa using k
  · intro h j hj
    rw [List.mem_range] at hj
    unfold keeps
    by_cases h0 : j = 0
    · simp [h0]
    · have := h j (by omega) hj
      simp [h0]
      simpa using this
theorem compact_nodup {s l : List Int} (hp : s.Perm l) (hs : s.Pairwise (· ≤ ·)) : (compactUpTo s.toArray s.length).length = l.length ↔ l.Nodup := by
  rw [← hp.length_eq, compact_len]
  have e : s.Nodup ↔ l.Nodup := hp.nodup_iff
  rw [← e]
  constructor
  · intro h
    have hlt : s.Pairwise (· < ·) := by
      rw [List.pairwise_iff_getElem] at hs ⊢
      intro i j hi hj hij
      have h1 := hs i (j-1) hi (by omega)
      have h2 := hs (j-1) j (by omega) hj (by omega)
      have h3 := h j (by omega) hj
      rw [getElem!_pos s j hj, getElem!_pos s (j-1) (by omega)] at h3
      by_cases e : i = j - 1
      · subst e; omega
      · have := h1 (by omega); omega
    exact hlt.imp (fun h => by omega)
  · intro h j h0 hj
    rw [List.nodup_iff_pairwise_ne, List.pairwise_iff_getElem] at h
    have := h (j-1) j (by omega) hj (by omega)
    rw [getElem!_pos s j hj, getElem!_pos s (j-1) (by omega)]
    exact fun e => this e.symm
end Go.Proofs.YtmaedahleenlgaaDoor

/- Plain: params and their bytes (layer 7). No condition. -/
set_option linter.unusedVariables false
set_option linter.unusedSimpArgs false
namespace Go.Proofs.YtmaedahleenlgaaDoor
open Go Go.RowKit

structure Par where
  idle : Int
  data : Int
  hg : Bool
  ho : Bool
  hr : Bool
  goal : List Int
  own : List Int
  retry : List Int
  chosen : Int
  vs : List Int
/-- May a number be a version? -/
def verOk (n : Int) : Prop := 1 ≤ n ∧ n < 4294967296
instance (n : Int) : Decidable (verOk n) := inferInstanceAs (Decidable (_ ∧ _))
def nameOk (there : Bool) (b : List Int) : Prop := b.length ≤ 20 ∧ (there = true ∨ b.length = 0)
instance (t : Bool) (b : List Int) : Decidable (nameOk t b) := inferInstanceAs (Decidable (_ ∧ _))
def rightP (p : Par) : Prop := (sizeV p.idle ≠ 0 ∧ sizeV p.data ≠ 0 ∧ verOk p.chosen) ∧ (nameOk p.hg p.goal ∧ nameOk p.ho p.own ∧ nameOk p.hr p.retry) ∧ p.vs.length ≤ 16 ∧ (∀ v ∈ p.vs, verOk v) ∧ p.vs.Nodup
instance (p : Par) : Decidable (rightP p) := by unfold rightP; infer_instance
def bigB (n : Int) : List Int := [n / 16777216 % 256, n / 65536 % 256, n / 256 % 256, n % 256]
def bigL (l : List Int) : List Int := l.flatMap bigB
def giveB (b : List Int) : List Int := varB b.length ++ b
def fieldB (n : Int) (b : List Int) : List Int := varB n ++ giveB b
def nameB (n : Int) (there : Bool) (b : List Int) : List Int := if there then fieldB n b else []
def writeB (p : Par) : List Int :=
  nameB 0 p.hg p.goal ++ fieldB 1 (varB p.idle) ++ fieldB 4 (varB p.data) ++ nameB 15 p.ho p.own ++ nameB 16 p.hr p.retry ++ fieldB 17 (bigL (p.chosen :: p.vs))
def writeP (p : Par) : List Int := if rightP p then writeB p else []
theorem bigB_len (n : Int) : (bigB n).length = 4 := rfl
theorem bigL_len : ∀ l : List Int, (bigL l).length = 4 * l.length
  | [] => rfl
  | a :: l => by
    have := bigL_len l
    unfold bigL at this ⊢
    rw [List.flatMap_cons, List.length_append, this, bigB_len, List.length_cons]
    omega
theorem bigL_snoc (l : List Int) (a : Int) : bigL (l ++ [a]) = bigL l ++ bigB a := by simp [bigL]
theorem bigB_byt (n : Int) : Byt (bigB n) := by
  intro x hx
  simp only [bigB, List.mem_cons, List.mem_nil_iff, or_false] at hx
  rcases hx with h | h | h | h <;> subst h <;> omega
theorem nth_get {l : List Int} {j : Nat} (h : j < l.length) : nth l j = l[j] := Option.some.inj ((nth_lt h).symm.trans (List.getElem?_eq_getElem h))
/-- What the reference's two loops ask. -/
theorem nodup_nth {l : List Int} : (∀ i, i < l.length → verOk (nth l i) ∧ ∀ k, k < i → nth l k ≠ nth l i) ↔ (∀ v ∈ l, verOk v) ∧ l.Nodup := by
  constructor
  · intro h
    refine ⟨fun v hv => ?_, ?_⟩
    · obtain ⟨i, hi, rfl⟩ := List.getElem_of_mem hv
      have := (h i hi).1
      rwa [nth_get hi] at this
    · rw [List.nodup_iff_pairwise_ne, List.pairwise_iff_getElem]
      intro i j hi hj hij
      have := (h j hj).2 i hij
      rwa [nth_get hi, nth_get hj] at this
  · rintro ⟨h1, h2⟩ i hi
    rw [List.nodup_iff_pairwise_ne, List.pairwise_iff_getElem] at h2
    refine ⟨by rw [nth_get hi]; exact h1 _ (List.getElem_mem hi), fun k hk => ?_⟩
    rw [nth_get hi, nth_get (by omega : k < l.length)]
    exact h2 k i (by omega) hi hk
end Go.Proofs.YtmaedahleenlgaaDoor

/- Plain: a token's bytes, and what bytes say (layer 16). No condition. -/
set_option linter.unusedVariables false
set_option linter.unusedSimpArgs false
namespace Go.Proofs.YtmaedahleenlgaaDoor
open Go Go.RowKit

/-- What a token says. -/
structure Tok where
  later : Bool
  addr : Int
  time : Int
  name : List Int
  deriving DecidableEq
def tok0 : Tok := ⟨false, 0, 0, []⟩
def badTok (x : Tok) : Prop := sizeV x.addr = 0 ∨ sizeV x.time = 0 ∨ 20 < x.name.length
instance (x : Tok) : Decidable (badTok x) := inferInstanceAs (Decidable (_ ∨ _ ∨ _))
def markB (b : Bool) : Int := if b then 1 else 0
def tokB (x : Tok) : List Int := if badTok x then [] else markB x.later :: (varB x.addr ++ varB x.time ++ giveB x.name)
theorem tokB_no {x : Tok} (h : badTok x) : tokB x = [] := if_pos h
theorem tokB_yes {x : Tok} (h : ¬ badTok x) : tokB x = markB x.later :: (varB x.addr ++ varB x.time ++ giveB x.name) := if_neg h
/-- Bytes behind their length, what stands behind them, an error's number. -/
def takeV (xs : List Int) : List Int × List Int × Int :=
  if (readV xs).2.2 ≠ 0 then ([], [], (readV xs).2.2)
  else if (xs.length : Int) - (readV xs).2.1 < (readV xs).1 then ([], [], 2)
  else ((xs.drop (readV xs).2.1).take (readV xs).1.toNat, xs.drop ((readV xs).2.1 + (readV xs).1.toNat), 0)
theorem takeV_err {xs : List Int} (h : (readV xs).2.2 ≠ 0) : takeV xs = ([], [], (readV xs).2.2) := if_pos h
theorem takeV_short {xs : List Int} (h : (readV xs).2.2 = 0) (h1 : (xs.length : Int) - (readV xs).2.1 < (readV xs).1) : takeV xs = ([], [], 2) := by
  unfold takeV; rw [if_neg (by simp [h]), if_pos h1]
theorem takeV_ok {xs : List Int} (h : (readV xs).2.2 = 0) (h1 : ¬ (xs.length : Int) - (readV xs).2.1 < (readV xs).1) : takeV xs = ((xs.drop (readV xs).2.1).take (readV xs).1.toNat, xs.drop ((readV xs).2.1 + (readV xs).1.toNat), 0) := by
  unfold takeV; rw [if_neg (by simp [h]), if_neg h1]
theorem byt_take {xs : List Int} (h : Byt xs) (n : Nat) : Byt (xs.take n) := fun x hx => h x (List.mem_of_mem_take hx)
theorem byt_drop {xs : List Int} (h : Byt xs) (n : Nat) : Byt (xs.drop n) := fun x hx => h x (List.mem_of_mem_drop hx)
theorem takeV_byt {xs : List Int} (h : Byt xs) : Byt (takeV xs).1 ∧ Byt (takeV xs).2.1 := by
  unfold takeV
  split
  · exact ⟨fun x hx => by simp at hx, fun x hx => by simp at hx⟩
  · split
    · exact ⟨fun x hx => by simp at hx, fun x hx => by simp at hx⟩
    · exact ⟨byt_take (byt_drop h _) _, byt_drop h _⟩
theorem takeV_giveB (nm r : List Int) (h : nm.length ≤ 4611686018427387903) : takeV (giveB nm ++ r) = (nm, r, 0) := by
  have hs : sizeV (nm.length : Int) ≠ 0 := sizeV_pos.2 ⟨by omega, by omega⟩
  have e : readV (giveB nm ++ r) = ((nm.length : Int), sizeV nm.length, 0) := by
    unfold giveB
    rw [List.append_assoc]
    exact readV_varB hs _
  have hl : (giveB nm ++ r).length = sizeV (nm.length : Int) + nm.length + r.length := by simp [giveB, varB_len]; omega
  rw [takeV_ok (by rw [e]) (by rw [e, hl]; simp only; omega), e]
  simp only [Int.toNat_natCast]
  have e2 : giveB nm ++ r = varB (nm.length : Int) ++ (nm ++ r) := by unfold giveB; rw [List.append_assoc]
  have e3 : (giveB nm ++ r).drop (sizeV (nm.length : Int)) = nm ++ r := by rw [e2, ← varB_len, List.drop_left]
  rw [e3, ← List.drop_drop, e3]
  simp
/-- The three parts of what bytes say. -/
def kd1 (xs : List Int) : Int × Nat × Int := readV (xs.drop 1)
def kd2 (xs : List Int) : Int × Nat × Int := readV (xs.drop (1 + (kd1 xs).2.1))
def kd3 (xs : List Int) : List Int × List Int × Int := takeV (xs.drop (1 + (kd1 xs).2.1 + (kd2 xs).2.1))
def kdOk (xs : List Int) : Prop := (0 < xs.length ∧ nth xs 0 ≤ 1) ∧ (kd1 xs).2.2 = 0 ∧ (kd2 xs).2.2 = 0 ∧ (kd3 xs).2.2 = 0 ∧ (kd3 xs).2.1.length = 0 ∧ (kd3 xs).1.length ≤ 20
instance (xs : List Int) : Decidable (kdOk xs) := by unfold kdOk; infer_instance
def readK (xs : List Int) : Option Tok := if kdOk xs then some ⟨decide (nth xs 0 = 1), (kd1 xs).1, (kd2 xs).1, (kd3 xs).1⟩ else none
theorem readK_no {xs : List Int} (h : ¬ kdOk xs) : readK xs = none := if_neg h
theorem readK_yes {xs : List Int} (h : kdOk xs) : readK xs = some ⟨decide (nth xs 0 = 1), (kd1 xs).1, (kd2 xs).1, (kd3 xs).1⟩ := if_pos h
theorem tokB_len {x : Tok} (h : ¬ badTok x) : (tokB x).length ≤ 45 ∧ 0 < (tokB x).length := by
  rw [tokB_yes h]
  have := sizeV_le x.addr
  have := sizeV_le x.time
  have := sizeV_le x.name.length
  have : ¬ 20 < x.name.length := fun k => h (.inr (.inr k))
  simp [giveB, varB_len]
  omega
theorem giveB_byt {nm : List Int} (h : Byt nm) : Byt (giveB nm) := by
  intro x hx
  rcases List.mem_append.1 hx with hx | hx
  · exact varB_byt _ x hx
  · exact h x hx
theorem tokB_byt {x : Tok} (h : Byt x.name) : Byt (tokB x) := by
  unfold tokB
  split
  · intro y hy; simp at hy
  · intro y hy
    simp only [List.mem_cons, List.mem_append] at hy
    rcases hy with rfl | (hy | hy) | hy
    · unfold markB; split <;> decide
    · exact varB_byt _ y hy
    · exact varB_byt _ y hy
    · exact giveB_byt h y hy
theorem readK_tokB {x : Tok} (h : ¬ badTok x) : readK (tokB x) = some x := by
  have ha : sizeV x.addr ≠ 0 := fun k => h (.inl k)
  have ht : sizeV x.time ≠ 0 := fun k => h (.inr (.inl k))
  have hn : x.name.length ≤ 20 := by have : ¬ 20 < x.name.length := fun k => h (.inr (.inr k)); omega
  have e := tokB_yes h
  have d1 : (tokB x).drop 1 = varB x.addr ++ (varB x.time ++ giveB x.name) := by rw [e, List.drop_succ_cons, List.drop_zero, List.append_assoc]
  have r1 : kd1 (tokB x) = (x.addr, sizeV x.addr, 0) := by
    unfold kd1; rw [d1]; exact readV_varB ha _
  have d2 : (tokB x).drop (1 + sizeV x.addr) = varB x.time ++ giveB x.name := by
    rw [← List.drop_drop, d1, ← varB_len, List.drop_left]
  have r2 : kd2 (tokB x) = (x.time, sizeV x.time, 0) := by
    unfold kd2; rw [r1]; show readV ((tokB x).drop (1 + sizeV x.addr)) = _; rw [d2]; exact readV_varB ht _
  have d3 : (tokB x).drop (1 + sizeV x.addr + sizeV x.time) = giveB x.name := by
    rw [← List.drop_drop, d2, ← varB_len x.time, List.drop_left]
  have r3 : kd3 (tokB x) = (x.name, [], 0) := by
    unfold kd3; rw [r1, r2]; show takeV ((tokB x).drop (1 + sizeV x.addr + sizeV x.time)) = _; rw [d3]
    have := takeV_giveB x.name [] (by omega)
    rwa [List.append_nil] at this
  have n0 : nth (tokB x) 0 = markB x.later := by rw [e]; rfl
  rw [readK_yes ⟨⟨(tokB_len h).2, by rw [n0]; unfold markB; split <;> decide⟩, by rw [r1], by rw [r2], by rw [r3], by rw [r3]; rfl, by rw [r3]; exact hn⟩, r1, r2, r3, n0]
  cases x with
  | mk l a t nm => cases l <;> rfl
theorem tokB_inj {x y : Tok} (hx : ¬ badTok x) (hy : ¬ badTok y) (h : tokB x = tokB y) : x = y := by
  have := readK_tokB hx
  rw [h, readK_tokB hy] at this
  exact (Option.some.inj this).symm
theorem readK_range {xs : List Int} {x : Tok} (h : readK xs = some x) : (0 ≤ x.addr ∧ x.addr ≤ 4611686018427387903) ∧ (0 ≤ x.time ∧ x.time ≤ 4611686018427387903) ∧ x.name.length ≤ 20 := by
  unfold readK at h
  split at h
  · rename_i k
    obtain rfl := Option.some.inj h
    obtain ⟨-, k1, k2, -, -, k5⟩ := k
    have f : ∀ ys : List Int, (readV ys).2.2 = 0 → 0 ≤ (readV ys).1 ∧ (readV ys).1 ≤ 4611686018427387903 := fun ys q => by
      obtain ⟨-, q2, q3⟩ := rd_ok q
      exact sizeV_pos.1 (by omega)
    exact ⟨f _ k1, f _ k2, k5⟩
  · cases h
theorem readK_byt {xs : List Int} {x : Tok} (hb : Byt xs) (h : readK xs = some x) : Byt x.name := by
  unfold readK at h
  split at h
  · obtain rfl := Option.some.inj h
    exact (takeV_byt (byt_drop hb _)).1
  · cases h
/-- An error's number of a token for an address at a time. -/
def rightK (x : Tok) (addr now life : Int) : Int := if x.addr ≠ addr then 14 else if now < x.time ∨ life < now - x.time then 9 else 0
end Go.Proofs.YtmaedahleenlgaaDoor

/- What slices.Grow and slices.Concat do with rows of bytes. No condition. -/
set_option linter.unusedVariables false
set_option linter.unusedSimpArgs false
namespace Go.Proofs.YtmaedahleenlgaaDoor
open Go Go.RowKit

theorem below_pair {w : World} (o o' : Obj) : Below w.heap.size w ((w.alloc o).alloc o') := ((Below.refl _ _).alloc (Nat.le_refl _) o).alloc (by simp) o'
/-- A call that hands back a row of bytes of its own. -/
def BytesPost (xs : List Int) (w : World) (e : Ending) (w' : World) : Prop := ∃ v, e = .returned v ∧ OwnI w' w.heap.size .u8 v xs ∧ Below w.heap.size w w'
theorem BytesPost.nil {w w' : World} (hb : Below w.heap.size w w') : BytesPost [] w (.returned (.slice none 0 0)) w' := ⟨_, rfl, OwnI.nil _ _ _, hb⟩
theorem OwnI.none_of {w : World} {B : Nat} {k : IntKind} {A : Option Addr} {n c : Nat} {xs : List Int} (h : OwnI w B k (.slice A n c) xs) : OwnI w B k (.slice A 0 c) [] := by
  rcases h with ⟨rfl, e⟩ | ⟨g, cap, cur, t, e, hb, hg, ht, h1, h2, h3, hc⟩
  · cases e; exact OwnI.nil _ _ _
  · cases e; exact .inr ⟨g, c, cur, t, rfl, hb, hg, ht, Nat.zero_le _, h2, h3, by simp⟩

/-- A row of rows of bytes. -/
def RdL (B : Nat) (w : World) (b o : Nat) (L : List (List Int)) : Prop := b < w.heap.size ∧ ∀ i xs, L[i]? = some xs → ∃ A c, w.cell? ⟨b, o + i, none⟩ = some (.slice A xs.length c) ∧ Rds B w .u8 A xs.length c xs
theorem RdL.below {B : Nat} {w w' : World} {b o : Nat} {L : List (List Int)} (h : RdL B w b o L) (hb : Below w.heap.size w w') : RdL B w' b o L :=
  ⟨Nat.lt_of_lt_of_le h.1 hb.size, fun i xs e => by
    obtain ⟨A, c, h1, h2⟩ := h.2 i xs e
    exact ⟨A, c, (hb.cell (by simpa using h.1)).trans h1, h2.below hb⟩⟩
theorem flat_succ {L : List (List Int)} {k : Nat} {xs : List Int} (h : L[k]? = some xs) : (L.take (k + 1)).flatten = (L.take k).flatten ++ xs := by
  rw [List.take_add_one, h]
  simp
theorem flat_le (L : List (List Int)) (k : Nat) : (L.take k).flatten.length ≤ L.flatten.length := by
  have : (L.take k ++ L.drop k).flatten.length = L.flatten.length := by rw [List.take_append_drop]
  simp only [List.flatten_append, List.length_append] at this
  omega
theorem RdL.lit {B g t : Nat} {w0 : World} (hg : w0.heap.size = g) (L : List (Option Addr × Nat × List Int)) (cs : Array Value) (hcs : cs = (L.map fun q => Value.slice q.1 q.2.2.length q.2.1).toArray) (h : ∀ q ∈ L, Rds B w0 .u8 q.1 q.2.2.length q.2.1 q.2.2) :
    RdL B (w0.alloc (.cells cs t)) g 0 (L.map (·.2.2)) := by
  subst hg hcs
  refine ⟨by simp, fun i xs e => ?_⟩
  rw [List.getElem?_map] at e
  obtain ⟨q, hq, rfl⟩ := Option.map_eq_some_iff.1 e
  refine ⟨q.1, q.2.1, ?_, (h q (List.mem_of_getElem? hq)).below (below_new _)⟩
  rw [cell_of_row _ _ (0 + i) _ _ _ (heap_alloc_new w0 _), Nat.zero_add]
  simp [hq]
theorem rds_byte {B g : Nat} {w0 : World} (hg : w0.heap.size = g) (x : Int) : Rds B (w0.alloc (.cells #[.int .u8 x] 5)) .u8 (some ⟨g, 0, none⟩) 1 1 [x] := by
  subst hg
  exact (OwnI.fresh (w := w0) (B := 0) (k := .u8) (xs := [x]) (t := 5) (Nat.zero_le _) (by decide) (by simp)).rds
end Go.Proofs.YtmaedahleenlgaaDoor

/- Numbers of one to eight bytes: Size, Append; the reference's Size. No condition but the table of bit places. -/
set_option linter.unusedVariables false
set_option linter.unusedSimpArgs false
namespace Go.Proofs.YtmaedahleenlgaaDoor
open Go Go.RowKit

theorem u64_or (x y : Int) (i : Nat) (hx₀ : 0 ≤ x) (hx : x % 2 ^ i = 0) (hx₁ : x < 18446744073709551616) (h₀ : 0 ≤ y) (h₁ : y < 2 ^ i) (h₂ : y < 18446744073709551616) : bits .or .u64 y x = x + y := by
  have h := bits_join .u64 64 (by decide) (fun n h0 h1 => by simp [IntKind.wrap, IntKind.bits, IntKind.signed]; omega) i x y hx₀ hx (by omega) h₀ h₁ (by omega)
  rw [← h]
  simp only [bits, BitVec.or_comm]
set_option maxHeartbeats 400000 in
theorem vsize_any (n : Int) (w : World) : Calls Tryd.prog 38 #[.int .i64 n] w fun e w' => e = .returned (.int .i64 (sizeV n)) ∧ w = w' := by
  rcases sizeV_cases n with ⟨k, h1 | h1⟩ | ⟨k, h1, h2⟩ | ⟨k, h1, h2⟩ | ⟨k, h1, h2⟩ | ⟨k, h1, h2⟩ <;> rw [k] <;> clear k <;>
  · go_enter Tryd.func38, Tryd.ntmps38
    go_wp2_with fail
    go_ret
    exact ⟨rfl, rfl⟩
set_option maxHeartbeats 400000 in
theorem rsize_any (n : Int) (w : World) : Calls Tryd.prog 30 #[.int .i64 n] w fun e w' => e = .returned (.int .i64 (sizeV n)) ∧ w = w' := by
  rcases sizeV_cases n with ⟨k, h1 | h1⟩ | ⟨k, h1, h2⟩ | ⟨k, h1, h2⟩ | ⟨k, h1, h2⟩ | ⟨k, h1, h2⟩ <;> rw [k] <;> clear k <;>
  · go_enter Tryd.func30, Tryd.ntmps30
    go_wp2_with fail
    go_ret
    exact ⟨rfl, rfl⟩

/-! ### The places of bits -/
/-- The table of bit places, so far as sizes look it up. -/
structure Tz (w : World) : Prop where
  c0 : w.cell? ⟨1, 0, none⟩ = some (.int .u8 0)
  c1 : w.cell? ⟨1, 1, none⟩ = some (.int .u8 1)
  c3 : w.cell? ⟨1, 3, none⟩ = some (.int .u8 2)
  c7 : w.cell? ⟨1, 7, none⟩ = some (.int .u8 3)
theorem Tz.lt {w : World} (h : Tz w) : 1 < w.heap.size := World.block_lt_of_cell? _ _ h.c0
theorem Tz.below {w w' : World} {B : Nat} (h : Tz w) (hb : Below B w w') (hB : 1 < B) : Tz w' :=
  ⟨(hb.cell (by exact hB)).trans h.c0, (hb.cell (by exact hB)).trans h.c1, (hb.cell (by exact hB)).trans h.c3, (hb.cell (by exact hB)).trans h.c7⟩
theorem Tz.later {w w' : World} (h : Tz w) (hb : Below w.heap.size w w') : Tz w' := h.below hb h.lt
def ctz (s : Nat) : Int := if s = 1 then 0 else if s = 2 then 1 else if s = 4 then 2 else 3
set_option maxHeartbeats 400000 in
theorem tz64_any (s : Nat) (hs : s = 1 ∨ s = 2 ∨ s = 4 ∨ s = 8) (w : World) (ht : Tz w) : Calls Tryd.prog 61 #[.int .u64 s] w fun e w' => e = .returned (.int .i64 (ctz s)) ∧ w = w' := by
  have t0 := ht.c0
  have t1 := ht.c1
  have t3 := ht.c3
  have t7 := ht.c7
  clear ht
  rcases hs with rfl | rfl | rfl | rfl
  · have e : IntKind.u64.wrap (bits .and .u64 1 (IntKind.u64.wrap (-1)) * 285870213051353865) / 288230376151711744 = 0 := by decide
    go_enter Tryd.func61, Tryd.ntmps61
    go_wp2_with fail
    go_ret
    exact ⟨rfl, rfl⟩
  · have e : IntKind.u64.wrap (bits .and .u64 2 (IntKind.u64.wrap (-2)) * 285870213051353865) / 288230376151711744 = 1 := by decide
    go_enter Tryd.func61, Tryd.ntmps61
    go_wp2_with fail
    go_ret
    exact ⟨rfl, rfl⟩
  · have e : IntKind.u64.wrap (bits .and .u64 4 (IntKind.u64.wrap (-4)) * 285870213051353865) / 288230376151711744 = 3 := by decide
    go_enter Tryd.func61, Tryd.ntmps61
    go_wp2_with fail
    go_ret
    exact ⟨rfl, rfl⟩
  · have e : IntKind.u64.wrap (bits .and .u64 8 (IntKind.u64.wrap (-8)) * 285870213051353865) / 288230376151711744 = 7 := by decide
    go_enter Tryd.func61, Tryd.ntmps61
    go_wp2_with fail
    go_ret
    exact ⟨rfl, rfl⟩
set_option maxHeartbeats 400000 in
theorem tz_any (s : Nat) (hs : s = 1 ∨ s = 2 ∨ s = 4 ∨ s = 8) (w : World) (ht : Tz w) : Calls Tryd.prog 53 #[.int .u64 s] w fun e w' => e = .returned (.int .i64 (ctz s)) ∧ w = w' := by
  have key := tz64_any s hs w ht
  go_enter Tryd.func53, Tryd.ntmps53
  go_wp2_with fail
  refine key.mono ?_
  rintro e w1 ⟨rfl, rfl⟩
  go_wp2_with fail
  go_ret
  exact ⟨rfl, rfl⟩
end Go.Proofs.YtmaedahleenlgaaDoor
