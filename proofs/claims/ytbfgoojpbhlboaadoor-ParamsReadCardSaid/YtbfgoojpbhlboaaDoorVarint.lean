/- Numbers of one to eight bytes: Size, Append; the reference's Size. No condition but the table of bit places. -/
import Derived.Test.YtbfgoojpbhlboaaDoorPureVar
import Derived.Test.YtbfgoojpbhlboaaDoorBase
import Derived.Test.YtbfgoojpbhlboaaDoorConcat
set_option linter.unusedVariables false
set_option linter.unusedSimpArgs false
namespace Go.Proofs.YtbfgoojpbhlboaaDoor
open Go Go.RowKit

theorem u64_or (x y : Int) (i : Nat) (hx₀ : 0 ≤ x) (hx : x % 2 ^ i = 0) (hx₁ : x < 18446744073709551616) (h₀ : 0 ≤ y) (h₁ : y < 2 ^ i) (h₂ : y < 18446744073709551616) : bits .or .u64 y x = x + y := by
  have h := bits_join .u64 64 (by decide) (fun n h0 h1 => by simp [IntKind.wrap, IntKind.bits, IntKind.signed]; omega) i x y hx₀ hx (by omega) h₀ h₁ (by omega)
  rw [← h]
  simp only [bits, BitVec.or_comm]
set_option maxHeartbeats 400000 in
theorem vsize_any (n : Int) (w : World) : Calls Tryd.prog 42 #[.int .i64 n] w fun e w' => e = .returned (.int .i64 (sizeV n)) ∧ w = w' := by
  rcases sizeV_cases n with ⟨k, h1 | h1⟩ | ⟨k, h1, h2⟩ | ⟨k, h1, h2⟩ | ⟨k, h1, h2⟩ | ⟨k, h1, h2⟩ <;> rw [k] <;> clear k <;>
  · go_enter Tryd.func42, Tryd.ntmps42
    go_wp2_with fail
    go_ret
    exact ⟨rfl, rfl⟩
set_option maxHeartbeats 400000 in
theorem rsize_any (n : Int) (w : World) : Calls Tryd.prog 38 #[.int .i64 n] w fun e w' => e = .returned (.int .i64 (sizeV n)) ∧ w = w' := by
  rcases sizeV_cases n with ⟨k, h1 | h1⟩ | ⟨k, h1, h2⟩ | ⟨k, h1, h2⟩ | ⟨k, h1, h2⟩ | ⟨k, h1, h2⟩ <;> rw [k] <;> clear k <;>
  · go_enter Tryd.func38, Tryd.ntmps38
    go_wp2_with fail
    go_ret
    exact ⟨rfl, rfl⟩

/-! ### The places of bits -/
/-- The table of bit places, so far as sizes look it up. -/
structure Tz (w : World) : Prop where
  c0 : w.cell? ⟨1, 0, none⟩ = some (.int .u8 0)
  c1 : w.cell? ⟨1, 1, none⟩ = some (.int .u8 1)
  c3 : w.cell? ⟨1, 3, none⟩ = some (.int .u8 2)
  c7 : w.cell? ⟨1, 7, none⟩ = some (.int .u8 3)
theorem Tz.lt {w : World} (h : Tz w) : 1 < w.heap.size := World.block_lt_of_cell? _ _ h.c0
theorem Tz.below {w w' : World} {B : Nat} (h : Tz w) (hb : Below B w w') (hB : 1 < B) : Tz w' :=
  ⟨(hb.cell (by exact hB)).trans h.c0, (hb.cell (by exact hB)).trans h.c1, (hb.cell (by exact hB)).trans h.c3, (hb.cell (by exact hB)).trans h.c7⟩
theorem Tz.later {w w' : World} (h : Tz w) (hb : Below w.heap.size w w') : Tz w' := h.below hb h.lt
def ctz (s : Nat) : Int := if s = 1 then 0 else if s = 2 then 1 else if s = 4 then 2 else 3
set_option maxHeartbeats 400000 in
theorem tz64_any (s : Nat) (hs : s = 1 ∨ s = 2 ∨ s = 4 ∨ s = 8) (w : World) (ht : Tz w) : Calls Tryd.prog 99 #[.int .u64 s] w fun e w' => e = .returned (.int .i64 (ctz s)) ∧ w = w' := by
  have t0 := ht.c0
  have t1 := ht.c1
  have t3 := ht.c3
  have t7 := ht.c7
  clear ht
  rcases hs with rfl | rfl | rfl | rfl
  · have e : IntKind.u64.wrap (bits .and .u64 1 (IntKind.u64.wrap (-1)) * 285870213051353865) / 288230376151711744 = 0 := by decide
    go_enter Tryd.func99, Tryd.ntmps99
    go_wp2_with fail
    go_ret
    exact ⟨rfl, rfl⟩
  · have e : IntKind.u64.wrap (bits .and .u64 2 (IntKind.u64.wrap (-2)) * 285870213051353865) / 288230376151711744 = 1 := by decide
    go_enter Tryd.func99, Tryd.ntmps99
    go_wp2_with fail
    go_ret
    exact ⟨rfl, rfl⟩
  · have e : IntKind.u64.wrap (bits .and .u64 4 (IntKind.u64.wrap (-4)) * 285870213051353865) / 288230376151711744 = 3 := by decide
    go_enter Tryd.func99, Tryd.ntmps99
    go_wp2_with fail
    go_ret
    exact ⟨rfl, rfl⟩
  · have e : IntKind.u64.wrap (bits .and .u64 8 (IntKind.u64.wrap (-8)) * 285870213051353865) / 288230376151711744 = 7 := by decide
    go_enter Tryd.func99, Tryd.ntmps99
    go_wp2_with fail
    go_ret
    exact ⟨rfl, rfl⟩
set_option maxHeartbeats 400000 in
theorem tz_any (s : Nat) (hs : s = 1 ∨ s = 2 ∨ s = 4 ∨ s = 8) (w : World) (ht : Tz w) : Calls Tryd.prog 81 #[.int .u64 s] w fun e w' => e = .returned (.int .i64 (ctz s)) ∧ w = w' := by
  have key := tz64_any s hs w ht
  go_enter Tryd.func81, Tryd.ntmps81
  go_wp2_with fail
  refine key.mono ?_
  rintro e w1 ⟨rfl, rfl⟩
  go_wp2_with fail
  go_ret
  exact ⟨rfl, rfl⟩
end Go.Proofs.YtbfgoojpbhlboaaDoor
