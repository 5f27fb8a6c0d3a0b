/- Own texts, one behind the other. Each bears its own remark. -/
import Derived.Test.YtbfgoojpbhlboaaDoorPureVar
import Derived.Test.YtbfgoojpbhlboaaDoorBase
import Derived.Test.YtbfgoojpbhlboaaDoorConcat
/- Numbers of one to eight bytes: Size, Append; the reference's Size. No condition but the table of bit places. -/
set_option linter.unusedVariables false
set_option linter.unusedSimpArgs false
namespace Go.Proofs.YtbfgoojpbhlboaaDoor
open Go Go.RowKit

theorem u64_or (x y : Int) (i : Nat) (hx₀ : 0 ≤ x) (hx : x % 2 ^ i = 0) (hx₁ : x < 18446744073709551616) (h₀ : 0 ≤ y) (h₁ : y < 2 ^ i) (h₂ : y < 18446744073709551616) : bits .or .u64 y x = x + y := by
  have h := bits_join .u64 64 (by decide) (fun n h0 h1 => by simp [IntKind.wrap, IntKind.bits, IntKind.signed]; omega) i x y hx₀ hx (by omega) h₀ h₁ (by omega)
  rw [← h]
  simp only [bits, BitVec.or_comm]
set_option maxHeartbeats 400000 in
theorem vsize_any (n : Int) (w : World) : Calls Tryd.prog 42 #[.int .i64 n] w fun e w' => e = .returned (.int .i64 (sizeV n)) ∧ w = w' := by
  rcases sizeV_cases n with ⟨k, h1 | h1⟩ | ⟨k, h1, h2⟩ | ⟨k, h1, h2⟩ | ⟨k, h1, h2⟩ | ⟨k, h1, h2⟩ <;> rw [k] <;> clear k <;>
  · go_enter Tryd.func42, Tryd.ntmps42
    go_wp2_with fail
    go_ret
    exact ⟨rfl, rfl⟩
set_option maxHeartbeats 400000 in
theorem rsize_any (n : Int) (w : World) : Calls Tryd.prog 38 #[.int .i64 n] w fun e w' => e = .returned (.int .i64 (sizeV n)) ∧ w = w' := by
  rcases sizeV_cases n with ⟨k, h1 | h1⟩ | ⟨k, h1, h2⟩ | ⟨k, h1, h2⟩ | ⟨k, h1, h2⟩ | ⟨k, h1, h2⟩ <;> rw [k] <;> clear k <;>
  · go_enter Tryd.func38, Tryd.ntmps38
    go_wp2_with fail
    go_ret
    exact ⟨rfl, rfl⟩

/-! ### The places of bits -/
/-- The table of bit places, so far as sizes look it up. -/
structure Tz (w : World) : Prop where
  c0 : w.cell? ⟨1, 0, none⟩ = some (.int .u8 0)
  c1 : w.cell? ⟨1, 1, none⟩ = some (.int .u8 1)
  c3 : w.cell? ⟨1, 3, none⟩ = some (.int .u8 2)
  c7 : w.cell? ⟨1, 7, none⟩ = some (.int .u8 3)
theorem Tz.lt {w : World} (h : Tz w) : 1 < w.heap.size := World.block_lt_of_cell? _ _ h.c0
theorem Tz.below {w w' : World} {B : Nat} (h : Tz w) (hb : Below B w w') (hB : 1 < B) : Tz w' :=
  ⟨(hb.cell (by exact hB)).trans h.c0, (hb.cell (by exact hB)).trans h.c1, (hb.cell (by exact hB)).trans h.c3, (hb.cell (by exact hB)).trans h.c7⟩
theorem Tz.later {w w' : World} (h : Tz w) (hb : Below w.heap.size w w') : Tz w' := h.below hb h.lt
def ctz (s : Nat) : Int := if s = 1 then 0 else if s = 2 then 1 else if s = 4 then 2 else 3
set_option maxHeartbeats 400000 in
theorem tz64_any (s : Nat) (hs : s = 1 ∨ s = 2 ∨ s = 4 ∨ s = 8) (w : World) (ht : Tz w) : Calls Tryd.prog 99 #[.int .u64 s] w fun e w' => e = .returned (.int .i64 (ctz s)) ∧ w = w' := by
  have t0 := ht.c0
  have t1 := ht.c1
  have t3 := ht.c3
  have t7 := ht.c7
  clear ht
  rcases hs with rfl | rfl | rfl | rfl
  · have e : IntKind.u64.wrap (bits .and .u64 1 (IntKind.u64.wrap (-1)) * 285870213051353865) / 288230376151711744 = 0 := by decide
    go_enter Tryd.func99, Tryd.ntmps99
    go_wp2_with fail
    go_ret
    exact ⟨rfl, rfl⟩
  · have e : IntKind.u64.wrap (bits .and .u64 2 (IntKind.u64.wrap (-2)) * 285870213051353865) / 288230376151711744 = 1 := by decide
    go_enter Tryd.func99, Tryd.ntmps99
    go_wp2_with fail
    go_ret
    exact ⟨rfl, rfl⟩
  · have e : IntKind.u64.wrap (bits .and .u64 4 (IntKind.u64.wrap (-4)) * 285870213051353865) / 288230376151711744 = 3 := by decide
    go_enter Tryd.func99, Tryd.ntmps99
    go_wp2_with fail
    go_ret
    exact ⟨rfl, rfl⟩
  · have e : IntKind.u64.wrap (bits .and .u64 8 (IntKind.u64.wrap (-8)) * 285870213051353865) / 288230376151711744 = 7 := by decide
    go_enter Tryd.func99, Tryd.ntmps99
    go_wp2_with fail
    go_ret
    exact ⟨rfl, rfl⟩
set_option maxHeartbeats 400000 in
theorem tz_any (s : Nat) (hs : s = 1 ∨ s = 2 ∨ s = 4 ∨ s = 8) (w : World) (ht : Tz w) : Calls Tryd.prog 81 #[.int .u64 s] w fun e w' => e = .returned (.int .i64 (ctz s)) ∧ w = w' := by
  have key := tz64_any s hs w ht
  go_enter Tryd.func81, Tryd.ntmps81
  go_wp2_with fail
  refine key.mono ?_
  rintro e w1 ⟨rfl, rfl⟩
  go_wp2_with fail
  go_ret
  exact ⟨rfl, rfl⟩
end Go.Proofs.YtbfgoojpbhlboaaDoor

/- Numbers of one to eight bytes: Append. No condition but the table of bit places. -/
set_option linter.unusedVariables false
set_option linter.unusedSimpArgs false
namespace Go.Proofs.YtbfgoojpbhlboaaDoor
open Go Go.RowKit

theorem OwnI.of_eq {w : World} {B : Nat} {k : IntKind} {v : Value} {xs ys : List Int} (h : xs = ys) (o : OwnI w B k v xs) : OwnI w B k v ys := h ▸ o
set_option maxHeartbeats 800000 in
set_option maxRecDepth 100000 in
theorem cloneB_any {B : Nat} (A : Option Addr) (n c : Nat) (xs : List Int) (w : World) (hr : Rds B w .u8 A n c xs) (hn : n ≤ 1000000) : Calls Tryd.prog 80 #[.slice A n c] w (BytesPost xs w) := by
  have hl := Lib.hid hr.len
  cases A with
  | none =>
    have h0 : n = 0 := by
      rcases Nat.eq_zero_or_pos n with h | h
      · exact h
      · obtain ⟨ad, e, _⟩ := hr.cell 0 (by have := hr.len; omega)
        cases e
    subst h0
    have hx : xs = [] := List.eq_nil_of_length_eq_zero hl.out
    subst hx
    have he := Lib.run_eql_slice_nil (P := Tryd.prog) w 22 5 none 0 c 0 0 Tryd.underlying22
    clear hr
    go_enter Tryd.func80, Tryd.ntmps80
    go_wp2_with fail
    go_ret
    exact ⟨_, rfl, OwnI.nil _ _ _, Below.refl _ _⟩
  | some a =>
    have he := Lib.run_eql_slice_nil (P := Tryd.prog) w 22 5 (some a) n c 0 0 Tryd.underlying22
    have HR := Lib.hid hr
    clear hr
    go_enter Tryd.func80, Tryd.ntmps80
    go_wp2_with (at_builtin; refine wp_app_u8 (xs := []) (ys := xs) rfl _ _ rfl rfl rfl (OwnI.empty (B := w.heap.size) (Nat.le_refl _) sp_u8) ?_ hl.out ?_ ?_ ?_)
    · exact (HR.out.below (below_new _)).cell
    · simp
    · simp; omega
    intro v' w3 hv3 hg3 hb3
    try simp only [List.nil_append] at hv3
    have HV := Lib.hid hv3
    clear hv3 hg3
    go_wp2_with fail
    go_ret
    exact ⟨_, rfl, HV.out, ((Below.refl _ _).alloc (Nat.le_refl _) _).trans hb3⟩

set_option maxHeartbeats 3200000 in
set_option maxRecDepth 100000 in
theorem vappend1_any {B : Nat} (A : Option Addr) (n c : Nat) (xs : List Int) (N : Int) (w : World) (hr : Rds B w .u8 A n c xs) (hn : n ≤ 100000) (ht : Tz w) (k : sizeV N = 1) (h0 : 0 ≤ N) (h1 : N < 64) : Calls Tryd.prog 36 #[.slice A n c, .int .i64 N] w (BytesPost (xs ++ varB N) w) := by
  have key := cloneB_any A n c xs w hr (by omega)
  have HT := Lib.hid ht
  have HL := Lib.hid hr.len
  have HE : Hid (xs ++ varB N = _) := congrArg (xs ++ ·) (varB_one k)
  clear ht hr
  have hV : bits .or .u64 N (IntKind.u64.wrap (IntKind.u64.wrap (ctz 1) * 64)) = 0 + N := u64_or 0 N 6 (by omega) (by decide) (by omega) (by omega) (by omega) (by omega)
  have HVs := Lib.hid hV
  go_enter Tryd.func36, Tryd.ntmps36
  go_wp2_with fail
  refine key.mono ?_
  clear key
  rintro e w1 ⟨v1, rfl, hv1, hb1⟩
  have HT1 := Lib.hid (HT.out.later hb1)
  have HV0 := Lib.hid hv1
  have HB0 := Lib.hid hb1
  have key := vsize_any N w1
  rw [k] at key
  clear hv1 hb1 HT
  go_wp2_with fail
  refine key.mono ?_
  clear key
  rintro e w2 ⟨rfl, rfl⟩
  have key := tz_any 1 (by simp) w1 HT1.out
  go_wp2_with fail
  refine key.mono ?_
  clear key
  rintro e w2 ⟨rfl, rfl⟩
  go_wp2_with fail
  clear hV
  try rw [HVs.out]
  obtain ⟨w0', hw0⟩ : ∃ q, q = w1 := ⟨_, rfl⟩
  rw [← hw0] at HV0 HB0 ⊢
  clear hw0 HT1
  refine wp_loop_rounds 2 ?_
  rw [rounds_succ]
  go_wp2_with (at_builtin; refine wp_app_u8 (ys := [_]) rfl _ _ rfl rfl rfl (HV0.out.below (below_new _)) (RdI.one_at _ .u8 _ _ rfl) rfl ?_ ?_ ?_)
  · have := HB0.out.size; simp; omega
  · have := HL.out; simp; omega
  intro v2 u2 hv hg hb
  have HV1 := Lib.hid hv
  have HB1 := Lib.hid ((HB0.out.alloc HB0.out.size _).trans hb)
  clear hv hg hb HV0 HB0
  go_wp2_with fail
  rw [rounds_succ]
  go_wp2_with fail
  go_ret
  refine ⟨_, rfl, ?_, HB1.out⟩
  rw [HE.out]
  refine OwnI.of_eq ?_ HV1.out
  congr 1 <;> (simp only [List.cons.injEq, and_true]; omega)
set_option maxHeartbeats 3200000 in
set_option maxRecDepth 100000 in
theorem vappend2_any {B : Nat} (A : Option Addr) (n c : Nat) (xs : List Int) (N : Int) (w : World) (hr : Rds B w .u8 A n c xs) (hn : n ≤ 100000) (ht : Tz w) (k : sizeV N = 2) (h0 : 64 ≤ N) (h1 : N < 16384) : Calls Tryd.prog 36 #[.slice A n c, .int .i64 N] w (BytesPost (xs ++ varB N) w) := by
  have key := cloneB_any A n c xs w hr (by omega)
  have HT := Lib.hid ht
  have HL := Lib.hid hr.len
  have HE : Hid (xs ++ varB N = _) := congrArg (xs ++ ·) (varB_two k)
  clear ht hr
  have hV : bits .or .u64 N (IntKind.u64.wrap (IntKind.u64.wrap (ctz 2) * 16384)) = 16384 + N := u64_or 16384 N 14 (by omega) (by decide) (by omega) (by omega) (by omega) (by omega)
  have HVs := Lib.hid hV
  go_enter Tryd.func36, Tryd.ntmps36
  go_wp2_with fail
  refine key.mono ?_
  clear key
  rintro e w1 ⟨v1, rfl, hv1, hb1⟩
  have HT1 := Lib.hid (HT.out.later hb1)
  have HV0 := Lib.hid hv1
  have HB0 := Lib.hid hb1
  have key := vsize_any N w1
  rw [k] at key
  clear hv1 hb1 HT
  go_wp2_with fail
  refine key.mono ?_
  clear key
  rintro e w2 ⟨rfl, rfl⟩
  have key := tz_any 2 (by simp) w1 HT1.out
  go_wp2_with fail
  refine key.mono ?_
  clear key
  rintro e w2 ⟨rfl, rfl⟩
  go_wp2_with fail
  clear hV
  try rw [HVs.out]
  obtain ⟨w0', hw0⟩ : ∃ q, q = w1 := ⟨_, rfl⟩
  rw [← hw0] at HV0 HB0 ⊢
  clear hw0 HT1
  refine wp_loop_rounds 3 ?_
  rw [rounds_succ]
  go_wp2_with (at_builtin; refine wp_app_u8 (ys := [_]) rfl _ _ rfl rfl rfl (HV0.out.below (below_new _)) (RdI.one_at _ .u8 _ _ rfl) rfl ?_ ?_ ?_)
  · have := HB0.out.size; simp; omega
  · have := HL.out; simp; omega
  intro v2 u2 hv hg hb
  have HV1 := Lib.hid hv
  have HB1 := Lib.hid ((HB0.out.alloc HB0.out.size _).trans hb)
  clear hv hg hb HV0 HB0
  go_wp2_with fail
  rw [rounds_succ]
  go_wp2_with (at_builtin; refine wp_app_u8 (ys := [_]) rfl _ _ rfl rfl rfl (HV1.out.below (below_new _)) (RdI.one_at _ .u8 _ _ rfl) rfl ?_ ?_ ?_)
  · have := HB1.out.size; simp; omega
  · have := HL.out; simp; omega
  intro v3 u3 hv hg hb
  have HV2 := Lib.hid hv
  have HB2 := Lib.hid ((HB1.out.alloc HB1.out.size _).trans hb)
  clear hv hg hb HV1 HB1
  go_wp2_with fail
  rw [rounds_succ]
  go_wp2_with fail
  go_ret
  refine ⟨_, rfl, ?_, HB2.out⟩
  rw [HE.out]
  refine OwnI.of_eq ?_ HV2.out
  congr 1 <;> (simp only [List.cons.injEq, and_true]; omega)
set_option maxHeartbeats 3200000 in
set_option maxRecDepth 100000 in
theorem vappend4_any {B : Nat} (A : Option Addr) (n c : Nat) (xs : List Int) (N : Int) (w : World) (hr : Rds B w .u8 A n c xs) (hn : n ≤ 100000) (ht : Tz w) (k : sizeV N = 4) (h0 : 16384 ≤ N) (h1 : N < 1073741824) : Calls Tryd.prog 36 #[.slice A n c, .int .i64 N] w (BytesPost (xs ++ varB N) w) := by
  have key := cloneB_any A n c xs w hr (by omega)
  have HT := Lib.hid ht
  have HL := Lib.hid hr.len
  have HE : Hid (xs ++ varB N = _) := congrArg (xs ++ ·) (varB_four k)
  clear ht hr
  have hV : bits .or .u64 N (IntKind.u64.wrap (IntKind.u64.wrap (ctz 4) * 1073741824)) = 2147483648 + N := u64_or 2147483648 N 30 (by omega) (by decide) (by omega) (by omega) (by omega) (by omega)
  have HVs := Lib.hid hV
  go_enter Tryd.func36, Tryd.ntmps36
  go_wp2_with fail
  refine key.mono ?_
  clear key
  rintro e w1 ⟨v1, rfl, hv1, hb1⟩
  have HT1 := Lib.hid (HT.out.later hb1)
  have HV0 := Lib.hid hv1
  have HB0 := Lib.hid hb1
  have key := vsize_any N w1
  rw [k] at key
  clear hv1 hb1 HT
  go_wp2_with fail
  refine key.mono ?_
  clear key
  rintro e w2 ⟨rfl, rfl⟩
  have key := tz_any 4 (by simp) w1 HT1.out
  go_wp2_with fail
  refine key.mono ?_
  clear key
  rintro e w2 ⟨rfl, rfl⟩
  go_wp2_with fail
  clear hV
  try rw [HVs.out]
  obtain ⟨w0', hw0⟩ : ∃ q, q = w1 := ⟨_, rfl⟩
  rw [← hw0] at HV0 HB0 ⊢
  clear hw0 HT1
  refine wp_loop_rounds 5 ?_
  rw [rounds_succ]
  go_wp2_with (at_builtin; refine wp_app_u8 (ys := [_]) rfl _ _ rfl rfl rfl (HV0.out.below (below_new _)) (RdI.one_at _ .u8 _ _ rfl) rfl ?_ ?_ ?_)
  · have := HB0.out.size; simp; omega
  · have := HL.out; simp; omega
  intro v2 u2 hv hg hb
  have HV1 := Lib.hid hv
  have HB1 := Lib.hid ((HB0.out.alloc HB0.out.size _).trans hb)
  clear hv hg hb HV0 HB0
  go_wp2_with fail
  rw [rounds_succ]
  go_wp2_with (at_builtin; refine wp_app_u8 (ys := [_]) rfl _ _ rfl rfl rfl (HV1.out.below (below_new _)) (RdI.one_at _ .u8 _ _ rfl) rfl ?_ ?_ ?_)
  · have := HB1.out.size; simp; omega
  · have := HL.out; simp; omega
  intro v3 u3 hv hg hb
  have HV2 := Lib.hid hv
  have HB2 := Lib.hid ((HB1.out.alloc HB1.out.size _).trans hb)
  clear hv hg hb HV1 HB1
  go_wp2_with fail
  rw [rounds_succ]
  go_wp2_with (at_builtin; refine wp_app_u8 (ys := [_]) rfl _ _ rfl rfl rfl (HV2.out.below (below_new _)) (RdI.one_at _ .u8 _ _ rfl) rfl ?_ ?_ ?_)
  · have := HB2.out.size; simp; omega
  · have := HL.out; simp; omega
  intro v4 u4 hv hg hb
  have HV3 := Lib.hid hv
  have HB3 := Lib.hid ((HB2.out.alloc HB2.out.size _).trans hb)
  clear hv hg hb HV2 HB2
  go_wp2_with fail
  rw [rounds_succ]
  go_wp2_with (at_builtin; refine wp_app_u8 (ys := [_]) rfl _ _ rfl rfl rfl (HV3.out.below (below_new _)) (RdI.one_at _ .u8 _ _ rfl) rfl ?_ ?_ ?_)
  · have := HB3.out.size; simp; omega
  · have := HL.out; simp; omega
  intro v5 u5 hv hg hb
  have HV4 := Lib.hid hv
  have HB4 := Lib.hid ((HB3.out.alloc HB3.out.size _).trans hb)
  clear hv hg hb HV3 HB3
  go_wp2_with fail
  rw [rounds_succ]
  go_wp2_with fail
  go_ret
  refine ⟨_, rfl, ?_, HB4.out⟩
  rw [HE.out]
  refine OwnI.of_eq ?_ HV4.out
  congr 1 <;> (simp only [List.cons.injEq, and_true]; omega)
set_option maxHeartbeats 3200000 in
set_option maxRecDepth 100000 in
theorem vappend8_any {B : Nat} (A : Option Addr) (n c : Nat) (xs : List Int) (N : Int) (w : World) (hr : Rds B w .u8 A n c xs) (hn : n ≤ 100000) (ht : Tz w) (k : sizeV N = 8) (h0 : 1073741824 ≤ N) (h1 : N ≤ 4611686018427387903) : Calls Tryd.prog 36 #[.slice A n c, .int .i64 N] w (BytesPost (xs ++ varB N) w) := by
  have key := cloneB_any A n c xs w hr (by omega)
  have HT := Lib.hid ht
  have HL := Lib.hid hr.len
  have HE : Hid (xs ++ varB N = _) := congrArg (xs ++ ·) (varB_eight k)
  clear ht hr
  have hV : bits .or .u64 N (IntKind.u64.wrap (IntKind.u64.wrap (ctz 8) * 4611686018427387904)) = 13835058055282163712 + N := u64_or 13835058055282163712 N 62 (by omega) (by decide) (by omega) (by omega) (by omega) (by omega)
  have HVs := Lib.hid hV
  go_enter Tryd.func36, Tryd.ntmps36
  go_wp2_with fail
  refine key.mono ?_
  clear key
  rintro e w1 ⟨v1, rfl, hv1, hb1⟩
  have HT1 := Lib.hid (HT.out.later hb1)
  have HV0 := Lib.hid hv1
  have HB0 := Lib.hid hb1
  have key := vsize_any N w1
  rw [k] at key
  clear hv1 hb1 HT
  go_wp2_with fail
  refine key.mono ?_
  clear key
  rintro e w2 ⟨rfl, rfl⟩
  have key := tz_any 8 (by simp) w1 HT1.out
  go_wp2_with fail
  refine key.mono ?_
  clear key
  rintro e w2 ⟨rfl, rfl⟩
  go_wp2_with fail
  clear hV
  try rw [HVs.out]
  obtain ⟨w0', hw0⟩ : ∃ q, q = w1 := ⟨_, rfl⟩
  rw [← hw0] at HV0 HB0 ⊢
  clear hw0 HT1
  refine wp_loop_rounds 9 ?_
  rw [rounds_succ]
  go_wp2_with (at_builtin; refine wp_app_u8 (ys := [_]) rfl _ _ rfl rfl rfl (HV0.out.below (below_new _)) (RdI.one_at _ .u8 _ _ rfl) rfl ?_ ?_ ?_)
  · have := HB0.out.size; simp; omega
  · have := HL.out; simp; omega
  intro v2 u2 hv hg hb
  have HV1 := Lib.hid hv
  have HB1 := Lib.hid ((HB0.out.alloc HB0.out.size _).trans hb)
  clear hv hg hb HV0 HB0
  go_wp2_with fail
  rw [rounds_succ]
  go_wp2_with (at_builtin; refine wp_app_u8 (ys := [_]) rfl _ _ rfl rfl rfl (HV1.out.below (below_new _)) (RdI.one_at _ .u8 _ _ rfl) rfl ?_ ?_ ?_)
  · have := HB1.out.size; simp; omega
  · have := HL.out; simp; omega
  intro v3 u3 hv hg hb
  have HV2 := Lib.hid hv
  have HB2 := Lib.hid ((HB1.out.alloc HB1.out.size _).trans hb)
  clear hv hg hb HV1 HB1
  go_wp2_with fail
  rw [rounds_succ]
  go_wp2_with (at_builtin; refine wp_app_u8 (ys := [_]) rfl _ _ rfl rfl rfl (HV2.out.below (below_new _)) (RdI.one_at _ .u8 _ _ rfl) rfl ?_ ?_ ?_)
  · have := HB2.out.size; simp; omega
  · have := HL.out; simp; omega
  intro v4 u4 hv hg hb
  have HV3 := Lib.hid hv
  have HB3 := Lib.hid ((HB2.out.alloc HB2.out.size _).trans hb)
  clear hv hg hb HV2 HB2
  go_wp2_with fail
  rw [rounds_succ]
  go_wp2_with (at_builtin; refine wp_app_u8 (ys := [_]) rfl _ _ rfl rfl rfl (HV3.out.below (below_new _)) (RdI.one_at _ .u8 _ _ rfl) rfl ?_ ?_ ?_)
  · have := HB3.out.size; simp; omega
  · have := HL.out; simp; omega
  intro v5 u5 hv hg hb
  have HV4 := Lib.hid hv
  have HB4 := Lib.hid ((HB3.out.alloc HB3.out.size _).trans hb)
  clear hv hg hb HV3 HB3
  go_wp2_with fail
  rw [rounds_succ]
  go_wp2_with (at_builtin; refine wp_app_u8 (ys := [_]) rfl _ _ rfl rfl rfl (HV4.out.below (below_new _)) (RdI.one_at _ .u8 _ _ rfl) rfl ?_ ?_ ?_)
  · have := HB4.out.size; simp; omega
  · have := HL.out; simp; omega
  intro v6 u6 hv hg hb
  have HV5 := Lib.hid hv
  have HB5 := Lib.hid ((HB4.out.alloc HB4.out.size _).trans hb)
  clear hv hg hb HV4 HB4
  go_wp2_with fail
  rw [rounds_succ]
  go_wp2_with (at_builtin; refine wp_app_u8 (ys := [_]) rfl _ _ rfl rfl rfl (HV5.out.below (below_new _)) (RdI.one_at _ .u8 _ _ rfl) rfl ?_ ?_ ?_)
  · have := HB5.out.size; simp; omega
  · have := HL.out; simp; omega
  intro v7 u7 hv hg hb
  have HV6 := Lib.hid hv
  have HB6 := Lib.hid ((HB5.out.alloc HB5.out.size _).trans hb)
  clear hv hg hb HV5 HB5
  go_wp2_with fail
  rw [rounds_succ]
  go_wp2_with (at_builtin; refine wp_app_u8 (ys := [_]) rfl _ _ rfl rfl rfl (HV6.out.below (below_new _)) (RdI.one_at _ .u8 _ _ rfl) rfl ?_ ?_ ?_)
  · have := HB6.out.size; simp; omega
  · have := HL.out; simp; omega
  intro v8 u8 hv hg hb
  have HV7 := Lib.hid hv
  have HB7 := Lib.hid ((HB6.out.alloc HB6.out.size _).trans hb)
  clear hv hg hb HV6 HB6
  go_wp2_with fail
  rw [rounds_succ]
  go_wp2_with (at_builtin; refine wp_app_u8 (ys := [_]) rfl _ _ rfl rfl rfl (HV7.out.below (below_new _)) (RdI.one_at _ .u8 _ _ rfl) rfl ?_ ?_ ?_)
  · have := HB7.out.size; simp; omega
  · have := HL.out; simp; omega
  intro v9 u9 hv hg hb
  have HV8 := Lib.hid hv
  have HB8 := Lib.hid ((HB7.out.alloc HB7.out.size _).trans hb)
  clear hv hg hb HV7 HB7
  go_wp2_with fail
  rw [rounds_succ]
  go_wp2_with fail
  go_ret
  refine ⟨_, rfl, ?_, HB8.out⟩
  rw [HE.out]
  refine OwnI.of_eq ?_ HV8.out
  congr 1 <;> (simp only [List.cons.injEq, and_true]; omega)
set_option maxHeartbeats 800000 in
theorem vappend0_any {B : Nat} (A : Option Addr) (n c : Nat) (xs : List Int) (N : Int) (w : World) (hr : Rds B w .u8 A n c xs) (hn : n ≤ 100000) (k : sizeV N = 0) : Calls Tryd.prog 36 #[.slice A n c, .int .i64 N] w (BytesPost (xs ++ varB N) w) := by
  have key := cloneB_any A n c xs w hr (by omega)
  have HE : Hid (xs ++ varB N = xs) := by show _ = _; rw [varB_none k, List.append_nil]
  clear hr
  go_enter Tryd.func36, Tryd.ntmps36
  go_wp2_with fail
  refine key.mono ?_
  clear key
  rintro e w1 ⟨v1, rfl, hv1, hb1⟩
  have HV0 := Lib.hid hv1
  have HB0 := Lib.hid hb1
  have key := vsize_any N w1
  rw [k] at key
  clear hv1 hb1
  go_wp2_with fail
  refine key.mono ?_
  clear key
  rintro e w2 ⟨rfl, rfl⟩
  go_wp2_with fail
  go_ret
  rw [HE.out]
  exact ⟨_, rfl, HV0.out, HB0.out⟩
theorem vappend_any {B : Nat} (A : Option Addr) (n c : Nat) (xs : List Int) (N : Int) (w : World) (hr : Rds B w .u8 A n c xs) (hn : n ≤ 100000) (ht : Tz w) : Calls Tryd.prog 36 #[.slice A n c, .int .i64 N] w (BytesPost (xs ++ varB N) w) := by
  rcases sizeV_cases N with ⟨k, h1⟩ | ⟨k, h1, h2⟩ | ⟨k, h1, h2⟩ | ⟨k, h1, h2⟩ | ⟨k, h1, h2⟩
  · exact vappend0_any A n c xs N w hr hn k
  · exact vappend1_any A n c xs N w hr hn ht k h1 h2
  · exact vappend2_any A n c xs N w hr hn ht k h1 h2
  · exact vappend4_any A n c xs N w hr hn ht k h1 h2
  · exact vappend8_any A n c xs N w hr hn ht k h1 h2
end Go.Proofs.YtbfgoojpbhlboaaDoor
