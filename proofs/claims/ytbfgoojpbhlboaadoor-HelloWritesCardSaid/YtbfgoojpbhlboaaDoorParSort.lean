/- Own texts, one behind the other. Each bears its own remark. -/
import Derived.Test.YtbfgoojpbhlboaaDoorProg
import Derived.Shelf.Sort.Plain
import Derived.Shelf.Slices.CompactI
import Derived.Test.YtbfgoojpbhlboaaDoorParAt
import Derived.Test.YtbfgoojpbhlboaaDoorCompact
import Derived.Sort.OwnSortedInts
import Derived.Shelf.Slices.In.SortNone
/- slices.Sort and slices.Compact at []int: the shelf's layings at this program. No condition. -/
set_option linter.unusedVariables false
namespace Go.Proofs.YtbfgoojpbhlboaaDoor
open Go Go.Shelf Go.Proofs

def sortLays_ren : Go.Shelf.Ren := ⟨fun | 189 => 41 | 125 => 83 | 257 => 82 | 128 => 109 | 129 => 110 | 294 => 100 | 295 => 101 | 296 => 102 | 297 => 103 | 298 => 104 | 299 => 105 | 216 => 106 | 300 => 107 | 301 => 108 | 328 => 121 | 329 => 122 | 330 => 123 | 331 => 124 | 332 => 125 | 215 => 126 | 343 => 130 | n => n, fun | 28 => 23 | 3 => 3 | 46 => 99 | 0 => 0 | 51 => 120 | 53 => 97 | 4 => 4 | 183 => 124 | 182 => 123 | 131 => 79 | 5 => 5 | 9 => 9 | 218 => 137 | 222 => 141 | 228 => 145 | 229 => 146 | n => n, fun | n => n⟩
theorem sortLays : Go.Proofs.Lays.n189 Tryd.prog sortLays_ren where
  mixed := by kernel_rfl
  f125 := Tryd.func83.trans (congrArg some (by kernel_rfl))
  f128 := Tryd.func109.trans (congrArg some (by kernel_rfl))
  f129 := Tryd.func110.trans (congrArg some (by kernel_rfl))
  f189 := Tryd.func41.trans (congrArg some (by kernel_rfl))
  f215 := Tryd.func126.trans (congrArg some (by kernel_rfl))
  f216 := Tryd.func106.trans (congrArg some (by kernel_rfl))
  f257 := Tryd.func82.trans (congrArg some (by kernel_rfl))
  f294 := Tryd.func100.trans (congrArg some (by kernel_rfl))
  f295 := Tryd.func101.trans (congrArg some (by kernel_rfl))
  f296 := Tryd.func102.trans (congrArg some (by kernel_rfl))
  f297 := Tryd.func103.trans (congrArg some (by kernel_rfl))
  f298 := Tryd.func104.trans (congrArg some (by kernel_rfl))
  f299 := Tryd.func105.trans (congrArg some (by kernel_rfl))
  f300 := Tryd.func107.trans (congrArg some (by kernel_rfl))
  f301 := Tryd.func108.trans (congrArg some (by kernel_rfl))
  f328 := Tryd.func121.trans (congrArg some (by kernel_rfl))
  f329 := Tryd.func122.trans (congrArg some (by kernel_rfl))
  f330 := Tryd.func123.trans (congrArg some (by kernel_rfl))
  f331 := Tryd.func124.trans (congrArg some (by kernel_rfl))
  f332 := Tryd.func125.trans (congrArg some (by kernel_rfl))
  f343 := Tryd.func130.trans (congrArg some (by kernel_rfl))
  t0 := Tryd.underlying0
  a0 := Tryd.isAgg0
  z0 := Tryd.sizeOf0
  v0 := Tryd.zeroValue0
  t3 := Tryd.underlying3
  a3 := Tryd.isAgg3
  z3 := Tryd.sizeOf3
  v3 := Tryd.zeroValue3
  t4 := Tryd.underlying4
  a4 := Tryd.isAgg4
  z4 := Tryd.sizeOf4
  v4 := Tryd.zeroValue4
  t5 := Tryd.underlying5
  a5 := Tryd.isAgg5
  z5 := Tryd.sizeOf5
  v5 := Tryd.zeroValue5
  t9 := Tryd.underlying9
  a9 := Tryd.isAgg9
  z9 := Tryd.sizeOf9
  v9 := Tryd.zeroValue9
  t28 := Tryd.underlying23
  a28 := Tryd.isAgg23
  z28 := Tryd.sizeOf23
  v28 := Tryd.zeroValue23
  t46 := Tryd.underlying99
  a46 := Tryd.isAgg99
  z46 := Tryd.sizeOf99
  v46 := Tryd.zeroValue99
  t51 := Tryd.underlying120
  a51 := Tryd.isAgg120
  z51 := Tryd.sizeOf120
  v51 := Tryd.zeroValue120
  t53 := Tryd.underlying97
  a53 := Tryd.isAgg97
  z53 := Tryd.sizeOf97
  v53 := Tryd.zeroValue97
  t131 := Tryd.underlying79
  a131 := Tryd.isAgg79
  z131 := Tryd.sizeOf79
  v131 := Tryd.zeroValue79
  t182 := Tryd.underlying123
  a182 := Tryd.isAgg123
  z182 := Tryd.sizeOf123
  v182 := Tryd.zeroValue123
  t183 := Tryd.underlying124
  a183 := Tryd.isAgg124
  z183 := Tryd.sizeOf124
  v183 := Tryd.zeroValue124
  t218 := Tryd.underlying137
  a218 := Tryd.isAgg137
  z218 := Tryd.sizeOf137
  v218 := Tryd.zeroValue137
  t222 := Tryd.underlying141
  a222 := Tryd.isAgg141
  z222 := Tryd.sizeOf141
  v222 := Tryd.zeroValue141
  t228 := Tryd.underlying145
  a228 := Tryd.isAgg145
  z228 := Tryd.sizeOf145
  v228 := Tryd.zeroValue145
  t229 := Tryd.underlying146
  a229 := Tryd.isAgg146
  z229 := Tryd.sizeOf146
  v229 := Tryd.zeroValue146
def compactLays_ren : Go.Shelf.Ren := ⟨fun | 20 => 47 | n => n, fun | 22 => 23 | 3 => 3 | 4 => 4 | 0 => 0 | n => n, fun | n => n⟩
theorem compactLays : Go.Proofs.Lays2.n20 Tryd.prog compactLays_ren where
  mixed := by kernel_rfl
  f20 := Tryd.func47.trans (congrArg some (by kernel_rfl))
  t0 := Tryd.underlying0
  a0 := Tryd.isAgg0
  z0 := Tryd.sizeOf0
  v0 := Tryd.zeroValue0
  t3 := Tryd.underlying3
  a3 := Tryd.isAgg3
  z3 := Tryd.sizeOf3
  v3 := Tryd.zeroValue3
  t4 := Tryd.underlying4
  a4 := Tryd.isAgg4
  z4 := Tryd.sizeOf4
  v4 := Tryd.zeroValue4
  t22 := Tryd.underlying23
  a22 := Tryd.isAgg23
  z22 := Tryd.sizeOf23
  v22 := Tryd.zeroValue23
  i3 := by kernel_rfl
end Go.Proofs.YtbfgoojpbhlboaaDoor

/- Sort and Compact at whole numbers of the call's own. No condition. -/
set_option linter.unusedVariables false
set_option linter.unusedSimpArgs false
namespace Go.Proofs.YtbfgoojpbhlboaaDoor
open Go Go.RowKit Go.Sort

theorem sort_num : sortLays_ren.f 189 = 41 := rfl
theorem compact_num : compactLays_ren.f 20 = 47 := rfl
def SortPost (B : Nat) (A : Option Addr) (n c : Nat) (xs : List Int) (w : World) (e : Ending) (w' : World) : Prop :=
  e = .returned (.tuple #[]) ∧ ∃ ys, ys.Perm xs ∧ ys.Pairwise (· ≤ ·) ∧ OwnI w' B .i64 (.slice A n c) ys ∧ Below B w w'
theorem sorted_ints (zs : List Int) : (zs.mergeSort fun x y => decide (x ≤ y)).Pairwise (· ≤ ·) := by
  have h := List.pairwise_mergeSort (le := fun (x y : Int) => decide (x ≤ y)) (fun a b c h1 h2 => by simp at *; omega) (fun a b => by simp; omega) zs
  exact h.imp fun h => by simpa using h
theorem sort_any {B : Nat} (A : Option Addr) (n c : Nat) (xs : List Int) (w : World) (h : OwnI w B .i64 (.slice A n c) xs) (hn : n ≤ 1000000) :
    Calls Tryd.prog 41 #[.slice A n c] w (SortPost B A n c xs w) := by
  have hl := (h.rds (B' := 0)).len
  by_cases h0 : n = 0
  · subst h0
    have hx : xs = [] := List.eq_nil_of_length_eq_zero hl
    subst hx
    have key := Any.slices_Sort_int_none sortLays A c w
    rw [sort_num] at key
    refine key.mono ?_
    rintro e w' ⟨rfl, rfl⟩
    exact ⟨rfl, [], .nil, .nil, h, Below.refl _ _⟩
  · rcases h with ⟨hx, e⟩ | ⟨g, cap, cur, T, e, hb, hg, hT, h1, h2, h3, hc⟩
    · subst hx; simp at hl; omega
    · injection e with e1 e2 e3
      subst e1 e2 e3
      have key := Any.slices_Sort_int sortLays g 0 c xs w (holds_of_blockI hg hc) (lt_of_get hg) (by omega)
      rw [sort_num] at key
      refine key.mono ?_
      rintro e w' ⟨rfl, q, os, rfl⟩
      have hp := List.mergeSort_perm xs fun x y => decide (x ≤ y)
      refine ⟨rfl, _, hp, sorted_ints xs, ?_, ?_⟩
      · refine .inr ⟨g, c, _, T, by rw [hp.length_eq], hb, heap_sortedI _ hg, hT, by rw [hp.length_eq]; exact h1, by simpa [putCells] using h2, h3, ?_⟩
        exact take_putCellsI cur _ (by rw [hp.length_eq]; omega)
      · have hgr := grownBy_sortedI (w := w) (g := g) (n := q) (os := os) ((xs.mergeSort fun x y => decide (x ≤ y)).toArray)
        refine ⟨hgr.os, hgr.tape, hgr.output, hgr.size, fun k hk => hgr.block k (Nat.lt_trans (Nat.lt_of_lt_of_le hk hb) (lt_of_get hg)) (fun e => by cases e; omega)⟩
def CompPost (B : Nat) (xs : List Int) (w : World) (e : Ending) (w' : World) : Prop :=
  (∃ A c, e = .returned (.slice A (Go.Lib.compact xs).length c)) ∧ Below B w w'
theorem compact_any {B : Nat} (A : Option Addr) (n c : Nat) (xs : List Int) (w : World) (h : OwnI w B .i64 (.slice A n c) xs) (hn : n ≤ 1000000) :
    Calls Tryd.prog 47 #[.slice A n c] w (CompPost B xs w) := by
  have hl := (h.rds (B' := 0)).len
  by_cases h0 : n = 0
  · subst h0
    have hx : xs = [] := List.eq_nil_of_length_eq_zero hl
    subst hx
    have key := Any.slices_Compact_int_empty compactLays A c w
    rw [compact_num] at key
    refine key.mono ?_
    rintro e w' ⟨rfl, rfl⟩
    exact ⟨⟨A, c, rfl⟩, Below.refl _ _⟩
  · rcases h with ⟨hx, e⟩ | ⟨g, cap, cur, T, e, hb, hg, hT, h1, h2, h3, hc⟩
    · subst hx; simp at hl; omega
    · injection e with e1 e2 e3
      subst e1 e2 e3
      have key := Any.slices_Compact_int compactLays g 0 c xs w (holds_of_blockI hg hc) (by omega) h1
      rw [compact_num] at key
      refine key.mono ?_
      rintro e w' ⟨rfl, q, rfl⟩
      refine ⟨⟨_, _, rfl⟩, ?_⟩
      have hgr := grownBy_sortedI (w := w) (g := g) (n := q) (os := #[]) ((Go.Lib.compact xs ++ List.replicate (xs.length - (Go.Lib.compact xs).length) 0).toArray)
      rw [grow_empty] at hgr
      exact ⟨hgr.os, hgr.tape, hgr.output, hgr.size, fun k hk => hgr.block k (Nat.lt_trans (Nat.lt_of_lt_of_le hk hb) (lt_of_get hg)) (fun e => by cases e; omega)⟩
end Go.Proofs.YtbfgoojpbhlboaaDoor
