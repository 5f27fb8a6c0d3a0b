/- b[l:], b[l:h], b[:h] of bytes: the walk's steps. No condition. -/
import Derived.Test.YtbfgoojpbhlboaaDoorBase
import Derived.Test.YtbfgoojpbhlboaaDoorConcat
set_option linter.unusedVariables false
set_option linter.unusedSimpArgs false
namespace Go.Proofs.YtbfgoojpbhlboaaDoor
open Go Go.RowKit

/-- The address of a part of a slice. -/
def cutA (A : Option Addr) (l c : Nat) : Option Addr := if c = l then A else A.map (·.add (l * 1))
theorem Rds.cut {B : Nat} {w : World} {k : IntKind} {A : Option Addr} {n c : Nat} {xs : List Int} (h : Rds B w k A n c xs) {l : Nat} (hl : l ≤ n) : Rds B w k (cutA A l c) (n - l) (c - l) (xs.drop l) := by
  by_cases h0 : n = 0
  · subst h0
    obtain rfl : l = 0 := by omega
    have hx : xs = [] := List.eq_nil_of_length_eq_zero h.len
    subst hx
    exact ⟨rfl, Nat.zero_le _, by have := h.max; omega, RdI.nil _ _ _, fun p => by omega⟩
  · obtain ⟨b, o, rfl, hc⟩ := h.cell.at_ (by have := h.len; omega)
    refine h.drop hl _ (fun hne => ?_) (fun he => ?_)
    · unfold cutA
      rw [if_neg hne, Nat.mul_one, Option.map_some, addr_add]
    · unfold cutA
      rw [if_pos he]
theorem Rds.cut2 {B : Nat} {w : World} {k : IntKind} {A : Option Addr} {n c : Nat} {xs : List Int} (h : Rds B w k A n c xs) {l m : Nat} (hl : l ≤ m) (hm : m ≤ n) : Rds B w k (cutA A l c) (m - l) (c - l) ((xs.take m).drop l) := (h.take hm).cut hl
theorem u8_elem : Tryd.prog.elem 22 = 5 := by kernel_rfl
theorem u8_slice : Tryd.prog.underlying 22 = some (.slice (Tryd.prog.elem 22)) := by rw [u8_elem]; exact Tryd.underlying22
theorem u8_sizeOf (w : World) : (Go.sizeOf (Tryd.prog.elem 22)).run Tryd.prog w = .ok 1 w := by
  obtain ⟨i, hi, hz0, hz1, hz2⟩ := info_parts info_u8
  rw [u8_elem]
  simp [sizeOf, typeInfo, hi, hz1]
theorem wp_cut {B : Nat} {w : World} {ops : Array Oper} {rest : List Oper} {o : Oper} {a : Act} {Q : Exit → Act → World → Prop} (hgd : o.guard = none) (x lo : Operand) (ho : o.op = .slice 22 x (some lo) none none) {A : Option Addr} {n c : Nat} {xs : List Int} (hx : a.eval x = .slice A n c) {kl : IntKind} {S : Int} (hlo : a.eval lo = .int kl S) (s : Nat) (hS : S = s) (hs : s ≤ n) (hr : Rds B w .u8 A n c xs)
    (h : Rds B w .u8 (cutA A s c) (n - s) (c - s) (xs.drop s) → wpList Tryd.prog ops Q rest (a.put o.dst (.slice (cutA A s c) (n - s) (c - s))) w) : wpList Tryd.prog ops Q (o :: rest) a w := by
  subst hS
  refine wp_op hgd (v := .slice (cutA A s c) (n - s) (c - s)) ?_ (h (hr.cut hs))
  unfold execOp
  simp [ho, hx, hlo, run_sliceAt_slice (h := u8_slice), run_slice_l (len := n) (cap := c) (a := A) (ht := u8_slice) (kl := kl) (l := (s : Int)) (h0 := by omega) (h1 := by omega), u8_sizeOf, Result.andThen, sliced, cutA]
theorem wp_cut2 {B : Nat} {w : World} {ops : Array Oper} {rest : List Oper} {o : Oper} {a : Act} {Q : Exit → Act → World → Prop} (hgd : o.guard = none) (x lo hi : Operand) (ho : o.op = .slice 22 x (some lo) (some hi) none) {A : Option Addr} {n c : Nat} {xs : List Int} (hx : a.eval x = .slice A n c) {kl kh : IntKind} {S H : Int} (hlo : a.eval lo = .int kl S) (hhi : a.eval hi = .int kh H) (s m : Nat) (hS : S = s) (hH : H = m) (hs : s ≤ m) (hm : m ≤ n) (hr : Rds B w .u8 A n c xs)
    (h : Rds B w .u8 (cutA A s c) (m - s) (c - s) ((xs.take m).drop s) → wpList Tryd.prog ops Q rest (a.put o.dst (.slice (cutA A s c) (m - s) (c - s))) w) : wpList Tryd.prog ops Q (o :: rest) a w := by
  subst hS hH
  refine wp_op hgd (v := .slice (cutA A s c) (m - s) (c - s)) ?_ (h (hr.cut2 hs hm))
  unfold execOp
  have hc := hr.cap
  simp [ho, hx, hlo, hhi, run_sliceAt_slice (h := u8_slice), run_slice_lh (len := n) (cap := c) (a := A) (ht := u8_slice) (kl := kl) (kh := kh) (l := (s : Int)) (h := (m : Int)) (h0 := by omega) (h1 := by omega) (h2 := by omega), u8_sizeOf, Result.andThen, sliced, cutA]
theorem wpStill_cut {B : Nat} {w : World} {ops : Array Oper} {rest : List Oper} {o : Oper} {a : Act} {Q : Act → Prop} (hgd : o.guard = none) (x lo : Operand) (ho : o.op = .slice 22 x (some lo) none none) {A : Option Addr} {n c : Nat} {xs : List Int} (hx : a.eval x = .slice A n c) {kl : IntKind} {S : Int} (hlo : a.eval lo = .int kl S) (s : Nat) (hS : S = s) (hs : s ≤ n) (hr : Rds B w .u8 A n c xs)
    (h : Rds B w .u8 (cutA A s c) (n - s) (c - s) (xs.drop s) → wpStill Tryd.prog ops w Q rest (a.put o.dst (.slice (cutA A s c) (n - s) (c - s)))) : wpStill Tryd.prog ops w Q (o :: rest) a := by
  subst hS
  refine wpStill_op hgd (v := .slice (cutA A s c) (n - s) (c - s)) ?_ (h (hr.cut hs))
  unfold execOp
  simp [ho, hx, hlo, run_sliceAt_slice (h := u8_slice), run_slice_l (len := n) (cap := c) (a := A) (ht := u8_slice) (kl := kl) (l := (s : Int)) (h0 := by omega) (h1 := by omega), u8_sizeOf, Result.andThen, sliced, cutA]
end Go.Proofs.YtbfgoojpbhlboaaDoor
