/- Sort and Compact at whole numbers of the call's own. No condition. -/
import Derived.Test.YtbfgoojpbhlboaaDoorSortLays
import Derived.Test.YtbfgoojpbhlboaaDoorParSmall
import Derived.Test.YtbfgoojpbhlboaaDoorCompact
import Derived.Sort.OwnSortedInts
import Derived.Shelf.Slices.In.SortNone
set_option linter.unusedVariables false
set_option linter.unusedSimpArgs false
namespace Go.Proofs.YtbfgoojpbhlboaaDoor
open Go Go.RowKit Go.Sort

theorem sort_num : sortLays_ren.f 189 = 41 := rfl
theorem compact_num : compactLays_ren.f 20 = 47 := rfl
def SortPost (B : Nat) (A : Option Addr) (n c : Nat) (xs : List Int) (w : World) (e : Ending) (w' : World) : Prop :=
  e = .returned (.tuple #[]) ∧ ∃ ys, ys.Perm xs ∧ ys.Pairwise (· ≤ ·) ∧ OwnI w' B .i64 (.slice A n c) ys ∧ Below B w w'
theorem sorted_ints (zs : List Int) : (zs.mergeSort fun x y => decide (x ≤ y)).Pairwise (· ≤ ·) := by
  have h := List.pairwise_mergeSort (le := fun (x y : Int) => decide (x ≤ y)) (fun a b c h1 h2 => by simp at *; omega) (fun a b => by simp; omega) zs
  exact h.imp fun h => by simpa using h
theorem sort_any {B : Nat} (A : Option Addr) (n c : Nat) (xs : List Int) (w : World) (h : OwnI w B .i64 (.slice A n c) xs) (hn : n ≤ 1000000) :
    Calls Tryd.prog 41 #[.slice A n c] w (SortPost B A n c xs w) := by
  have hl := (h.rds (B' := 0)).len
  by_cases h0 : n = 0
  · subst h0
    have hx : xs = [] := List.eq_nil_of_length_eq_zero hl
    subst hx
    have key := Any.slices_Sort_int_none sortLays A c w
    rw [sort_num] at key
    refine key.mono ?_
    rintro e w' ⟨rfl, rfl⟩
    exact ⟨rfl, [], .nil, .nil, h, Below.refl _ _⟩
  · rcases h with ⟨hx, e⟩ | ⟨g, cap, cur, T, e, hb, hg, hT, h1, h2, h3, hc⟩
    · subst hx; simp at hl; omega
    · injection e with e1 e2 e3
      subst e1 e2 e3
      have key := Any.slices_Sort_int sortLays g 0 c xs w (holds_of_blockI hg hc) (lt_of_get hg) (by omega)
      rw [sort_num] at key
      refine key.mono ?_
      rintro e w' ⟨rfl, q, os, rfl⟩
      have hp := List.mergeSort_perm xs fun x y => decide (x ≤ y)
      refine ⟨rfl, _, hp, sorted_ints xs, ?_, ?_⟩
      · refine .inr ⟨g, c, _, T, by rw [hp.length_eq], hb, heap_sortedI _ hg, hT, by rw [hp.length_eq]; exact h1, by simpa [putCells] using h2, h3, ?_⟩
        exact take_putCellsI cur _ (by rw [hp.length_eq]; omega)
      · have hgr := grownBy_sortedI (w := w) (g := g) (n := q) (os := os) ((xs.mergeSort fun x y => decide (x ≤ y)).toArray)
        refine ⟨hgr.os, hgr.tape, hgr.output, hgr.size, fun k hk => hgr.block k (Nat.lt_trans (Nat.lt_of_lt_of_le hk hb) (lt_of_get hg)) (fun e => by cases e; omega)⟩
def CompPost (B : Nat) (xs : List Int) (w : World) (e : Ending) (w' : World) : Prop :=
  (∃ A c, e = .returned (.slice A (Go.Lib.compact xs).length c)) ∧ Below B w w'
theorem compact_any {B : Nat} (A : Option Addr) (n c : Nat) (xs : List Int) (w : World) (h : OwnI w B .i64 (.slice A n c) xs) (hn : n ≤ 1000000) :
    Calls Tryd.prog 47 #[.slice A n c] w (CompPost B xs w) := by
  have hl := (h.rds (B' := 0)).len
  by_cases h0 : n = 0
  · subst h0
    have hx : xs = [] := List.eq_nil_of_length_eq_zero hl
    subst hx
    have key := Any.slices_Compact_int_empty compactLays A c w
    rw [compact_num] at key
    refine key.mono ?_
    rintro e w' ⟨rfl, rfl⟩
    exact ⟨⟨A, c, rfl⟩, Below.refl _ _⟩
  · rcases h with ⟨hx, e⟩ | ⟨g, cap, cur, T, e, hb, hg, hT, h1, h2, h3, hc⟩
    · subst hx; simp at hl; omega
    · injection e with e1 e2 e3
      subst e1 e2 e3
      have key := Any.slices_Compact_int compactLays g 0 c xs w (holds_of_blockI hg hc) (by omega) h1
      rw [compact_num] at key
      refine key.mono ?_
      rintro e w' ⟨rfl, q, rfl⟩
      refine ⟨⟨_, _, rfl⟩, ?_⟩
      have hgr := grownBy_sortedI (w := w) (g := g) (n := q) (os := #[]) ((Go.Lib.compact xs ++ List.replicate (xs.length - (Go.Lib.compact xs).length) 0).toArray)
      rw [grow_empty] at hgr
      exact ⟨hgr.os, hgr.tape, hgr.output, hgr.size, fun k hk => hgr.block k (Nat.lt_trans (Nat.lt_of_lt_of_le hk hb) (lt_of_get hg)) (fun e => by cases e; omega)⟩
end Go.Proofs.YtbfgoojpbhlboaaDoor
