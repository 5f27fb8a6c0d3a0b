/- Own texts, one behind the other. Each bears its own remark. -/
import Derived.Test.YtmaedahleenlgaaDoorPureSched
import Derived.Test.YtmaedahleenlgaaDoorBase
import Derived.Test.YtmaedahleenlgaaDoorTerm3
import Derived.Test.YtmaedahleenlgaaDoorConcat
/- Numbers of one to eight bytes: Size, Append; the reference's Size. No condition but the table of bit places. -/
set_option linter.unusedVariables false
set_option linter.unusedSimpArgs false
namespace Go.Proofs.YtmaedahleenlgaaDoor
open Go Go.RowKit

theorem u64_or (x y : Int) (i : Nat) (hx₀ : 0 ≤ x) (hx : x % 2 ^ i = 0) (hx₁ : x < 18446744073709551616) (h₀ : 0 ≤ y) (h₁ : y < 2 ^ i) (h₂ : y < 18446744073709551616) : bits .or .u64 y x = x + y := by
  have h := bits_join .u64 64 (by decide) (fun n h0 h1 => by simp [IntKind.wrap, IntKind.bits, IntKind.signed]; omega) i x y hx₀ hx (by omega) h₀ h₁ (by omega)
  rw [← h]
  simp only [bits, BitVec.or_comm]
set_option maxHeartbeats 400000 in
theorem vsize_any (n : Int) (w : World) : Calls Tryd.prog 38 #[.int .i64 n] w fun e w' => e = .returned (.int .i64 (sizeV n)) ∧ w = w' := by
  rcases sizeV_cases n with ⟨k, h1 | h1⟩ | ⟨k, h1, h2⟩ | ⟨k, h1, h2⟩ | ⟨k, h1, h2⟩ | ⟨k, h1, h2⟩ <;> rw [k] <;> clear k <;>
  · go_enter Tryd.func38, Tryd.ntmps38
    go_wp2_with fail
    go_ret
    exact ⟨rfl, rfl⟩
set_option maxHeartbeats 400000 in
theorem rsize_any (n : Int) (w : World) : Calls Tryd.prog 30 #[.int .i64 n] w fun e w' => e = .returned (.int .i64 (sizeV n)) ∧ w = w' := by
  rcases sizeV_cases n with ⟨k, h1 | h1⟩ | ⟨k, h1, h2⟩ | ⟨k, h1, h2⟩ | ⟨k, h1, h2⟩ | ⟨k, h1, h2⟩ <;> rw [k] <;> clear k <;>
  · go_enter Tryd.func30, Tryd.ntmps30
    go_wp2_with fail
    go_ret
    exact ⟨rfl, rfl⟩

/-! ### The places of bits -/
/-- The table of bit places, so far as sizes look it up. -/
structure Tz (w : World) : Prop where
  c0 : w.cell? ⟨1, 0, none⟩ = some (.int .u8 0)
  c1 : w.cell? ⟨1, 1, none⟩ = some (.int .u8 1)
  c3 : w.cell? ⟨1, 3, none⟩ = some (.int .u8 2)
  c7 : w.cell? ⟨1, 7, none⟩ = some (.int .u8 3)
theorem Tz.lt {w : World} (h : Tz w) : 1 < w.heap.size := World.block_lt_of_cell? _ _ h.c0
theorem Tz.below {w w' : World} {B : Nat} (h : Tz w) (hb : Below B w w') (hB : 1 < B) : Tz w' :=
  ⟨(hb.cell (by exact hB)).trans h.c0, (hb.cell (by exact hB)).trans h.c1, (hb.cell (by exact hB)).trans h.c3, (hb.cell (by exact hB)).trans h.c7⟩
theorem Tz.later {w w' : World} (h : Tz w) (hb : Below w.heap.size w w') : Tz w' := h.below hb h.lt
def ctz (s : Nat) : Int := if s = 1 then 0 else if s = 2 then 1 else if s = 4 then 2 else 3
set_option maxHeartbeats 400000 in
theorem tz64_any (s : Nat) (hs : s = 1 ∨ s = 2 ∨ s = 4 ∨ s = 8) (w : World) (ht : Tz w) : Calls Tryd.prog 61 #[.int .u64 s] w fun e w' => e = .returned (.int .i64 (ctz s)) ∧ w = w' := by
  have t0 := ht.c0
  have t1 := ht.c1
  have t3 := ht.c3
  have t7 := ht.c7
  clear ht
  rcases hs with rfl | rfl | rfl | rfl
  · have e : IntKind.u64.wrap (bits .and .u64 1 (IntKind.u64.wrap (-1)) * 285870213051353865) / 288230376151711744 = 0 := by decide
    go_enter Tryd.func61, Tryd.ntmps61
    go_wp2_with fail
    go_ret
    exact ⟨rfl, rfl⟩
  · have e : IntKind.u64.wrap (bits .and .u64 2 (IntKind.u64.wrap (-2)) * 285870213051353865) / 288230376151711744 = 1 := by decide
    go_enter Tryd.func61, Tryd.ntmps61
    go_wp2_with fail
    go_ret
    exact ⟨rfl, rfl⟩
  · have e : IntKind.u64.wrap (bits .and .u64 4 (IntKind.u64.wrap (-4)) * 285870213051353865) / 288230376151711744 = 3 := by decide
    go_enter Tryd.func61, Tryd.ntmps61
    go_wp2_with fail
    go_ret
    exact ⟨rfl, rfl⟩
  · have e : IntKind.u64.wrap (bits .and .u64 8 (IntKind.u64.wrap (-8)) * 285870213051353865) / 288230376151711744 = 7 := by decide
    go_enter Tryd.func61, Tryd.ntmps61
    go_wp2_with fail
    go_ret
    exact ⟨rfl, rfl⟩
set_option maxHeartbeats 400000 in
theorem tz_any (s : Nat) (hs : s = 1 ∨ s = 2 ∨ s = 4 ∨ s = 8) (w : World) (ht : Tz w) : Calls Tryd.prog 53 #[.int .u64 s] w fun e w' => e = .returned (.int .i64 (ctz s)) ∧ w = w' := by
  have key := tz64_any s hs w ht
  go_enter Tryd.func53, Tryd.ntmps53
  go_wp2_with fail
  refine key.mono ?_
  rintro e w1 ⟨rfl, rfl⟩
  go_wp2_with fail
  go_ret
  exact ⟨rfl, rfl⟩
end Go.Proofs.YtmaedahleenlgaaDoor

/- Numbers of one to eight bytes: Append. No condition but the table of bit places. -/
set_option linter.unusedVariables false
set_option linter.unusedSimpArgs false
namespace Go.Proofs.YtmaedahleenlgaaDoor
open Go Go.RowKit

theorem OwnI.of_eq {w : World} {B : Nat} {k : IntKind} {v : Value} {xs ys : List Int} (h : xs = ys) (o : OwnI w B k v xs) : OwnI w B k v ys := h ▸ o
set_option maxHeartbeats 800000 in
set_option maxRecDepth 100000 in
theorem cloneB_any {B : Nat} (A : Option Addr) (n c : Nat) (xs : List Int) (w : World) (hr : Rds B w .u8 A n c xs) (hn : n ≤ 1000000) : Calls Tryd.prog 52 #[.slice A n c] w (BytesPost xs w) := by
  have hl := Lib.hid hr.len
  cases A with
  | none =>
    have h0 : n = 0 := by
      rcases Nat.eq_zero_or_pos n with h | h
      · exact h
      · obtain ⟨ad, e, _⟩ := hr.cell 0 (by have := hr.len; omega)
        cases e
    subst h0
    have hx : xs = [] := List.eq_nil_of_length_eq_zero hl.out
    subst hx
    have he := Lib.run_eql_slice_nil (P := Tryd.prog) w 22 5 none 0 c 0 0 Tryd.underlying22
    clear hr
    go_enter Tryd.func52, Tryd.ntmps52
    go_wp2_with fail
    go_ret
    exact ⟨_, rfl, OwnI.nil _ _ _, Below.refl _ _⟩
  | some a =>
    have he := Lib.run_eql_slice_nil (P := Tryd.prog) w 22 5 (some a) n c 0 0 Tryd.underlying22
    have HR := Lib.hid hr
    clear hr
    go_enter Tryd.func52, Tryd.ntmps52
    go_wp2_with (at_builtin; refine wp_app_u8 (xs := []) (ys := xs) rfl _ _ rfl rfl rfl (OwnI.empty (B := w.heap.size) (Nat.le_refl _) sp_u8) ?_ hl.out ?_ ?_ ?_)
    · exact (HR.out.below (below_new _)).cell
    · simp
    · simp; omega
    intro v' w3 hv3 hg3 hb3
    try simp only [List.nil_append] at hv3
    have HV := Lib.hid hv3
    clear hv3 hg3
    go_wp2_with fail
    go_ret
    exact ⟨_, rfl, HV.out, ((Below.refl _ _).alloc (Nat.le_refl _) _).trans hb3⟩

set_option maxHeartbeats 3200000 in
set_option maxRecDepth 100000 in
theorem vappend1_any {B : Nat} (A : Option Addr) (n c : Nat) (xs : List Int) (N : Int) (w : World) (hr : Rds B w .u8 A n c xs) (hn : n ≤ 100000) (ht : Tz w) (k : sizeV N = 1) (h0 : 0 ≤ N) (h1 : N < 64) : Calls Tryd.prog 39 #[.slice A n c, .int .i64 N] w (BytesPost (xs ++ varB N) w) := by
  have key := cloneB_any A n c xs w hr (by omega)
  have HT := Lib.hid ht
  have HL := Lib.hid hr.len
  have HE : Hid (xs ++ varB N = _) := congrArg (xs ++ ·) (varB_one k)
  clear ht hr
  have hV : bits .or .u64 N (IntKind.u64.wrap (IntKind.u64.wrap (ctz 1) * 64)) = 0 + N := u64_or 0 N 6 (by omega) (by decide) (by omega) (by omega) (by omega) (by omega)
  have HVs := Lib.hid hV
  go_enter Tryd.func39, Tryd.ntmps39
  go_wp2_with fail
  refine key.mono ?_
  clear key
  rintro e w1 ⟨v1, rfl, hv1, hb1⟩
  have HT1 := Lib.hid (HT.out.later hb1)
  have HV0 := Lib.hid hv1
  have HB0 := Lib.hid hb1
  have key := vsize_any N w1
  rw [k] at key
  clear hv1 hb1 HT
  go_wp2_with fail
  refine key.mono ?_
  clear key
  rintro e w2 ⟨rfl, rfl⟩
  have key := tz_any 1 (by simp) w1 HT1.out
  go_wp2_with fail
  refine key.mono ?_
  clear key
  rintro e w2 ⟨rfl, rfl⟩
  go_wp2_with fail
  clear hV
  try rw [HVs.out]
  obtain ⟨w0', hw0⟩ : ∃ q, q = w1 := ⟨_, rfl⟩
  rw [← hw0] at HV0 HB0 ⊢
  clear hw0 HT1
  refine wp_loop_rounds 2 ?_
  rw [rounds_succ]
  go_wp2_with (at_builtin; refine wp_app_u8 (ys := [_]) rfl _ _ rfl rfl rfl (HV0.out.below (below_new _)) (RdI.one_at _ .u8 _ _ rfl) rfl ?_ ?_ ?_)
  · have := HB0.out.size; simp; omega
  · have := HL.out; simp; omega
  intro v2 u2 hv hg hb
  have HV1 := Lib.hid hv
  have HB1 := Lib.hid ((HB0.out.alloc HB0.out.size _).trans hb)
  clear hv hg hb HV0 HB0
  go_wp2_with fail
  rw [rounds_succ]
  go_wp2_with fail
  go_ret
  refine ⟨_, rfl, ?_, HB1.out⟩
  rw [HE.out]
  refine OwnI.of_eq ?_ HV1.out
  congr 1 <;> (simp only [List.cons.injEq, and_true]; omega)
set_option maxHeartbeats 3200000 in
set_option maxRecDepth 100000 in
theorem vappend2_any {B : Nat} (A : Option Addr) (n c : Nat) (xs : List Int) (N : Int) (w : World) (hr : Rds B w .u8 A n c xs) (hn : n ≤ 100000) (ht : Tz w) (k : sizeV N = 2) (h0 : 64 ≤ N) (h1 : N < 16384) : Calls Tryd.prog 39 #[.slice A n c, .int .i64 N] w (BytesPost (xs ++ varB N) w) := by
  have key := cloneB_any A n c xs w hr (by omega)
  have HT := Lib.hid ht
  have HL := Lib.hid hr.len
  have HE : Hid (xs ++ varB N = _) := congrArg (xs ++ ·) (varB_two k)
  clear ht hr
  have hV : bits .or .u64 N (IntKind.u64.wrap (IntKind.u64.wrap (ctz 2) * 16384)) = 16384 + N := u64_or 16384 N 14 (by omega) (by decide) (by omega) (by omega) (by omega) (by omega)
  have HVs := Lib.hid hV
  go_enter Tryd.func39, Tryd.ntmps39
  go_wp2_with fail
  refine key.mono ?_
  clear key
  rintro e w1 ⟨v1, rfl, hv1, hb1⟩
  have HT1 := Lib.hid (HT.out.later hb1)
  have HV0 := Lib.hid hv1
  have HB0 := Lib.hid hb1
  have key := vsize_any N w1
  rw [k] at key
  clear hv1 hb1 HT
  go_wp2_with fail
  refine key.mono ?_
  clear key
  rintro e w2 ⟨rfl, rfl⟩
  have key := tz_any 2 (by simp) w1 HT1.out
  go_wp2_with fail
  refine key.mono ?_
  clear key
  rintro e w2 ⟨rfl, rfl⟩
  go_wp2_with fail
  clear hV
  try rw [HVs.out]
  obtain ⟨w0', hw0⟩ : ∃ q, q = w1 := ⟨_, rfl⟩
  rw [← hw0] at HV0 HB0 ⊢
  clear hw0 HT1
  refine wp_loop_rounds 3 ?_
  rw [rounds_succ]
  go_wp2_with (at_builtin; refine wp_app_u8 (ys := [_]) rfl _ _ rfl rfl rfl (HV0.out.below (below_new _)) (RdI.one_at _ .u8 _ _ rfl) rfl ?_ ?_ ?_)
  · have := HB0.out.size; simp; omega
  · have := HL.out; simp; omega
  intro v2 u2 hv hg hb
  have HV1 := Lib.hid hv
  have HB1 := Lib.hid ((HB0.out.alloc HB0.out.size _).trans hb)
  clear hv hg hb HV0 HB0
  go_wp2_with fail
  rw [rounds_succ]
  go_wp2_with (at_builtin; refine wp_app_u8 (ys := [_]) rfl _ _ rfl rfl rfl (HV1.out.below (below_new _)) (RdI.one_at _ .u8 _ _ rfl) rfl ?_ ?_ ?_)
  · have := HB1.out.size; simp; omega
  · have := HL.out; simp; omega
  intro v3 u3 hv hg hb
  have HV2 := Lib.hid hv
  have HB2 := Lib.hid ((HB1.out.alloc HB1.out.size _).trans hb)
  clear hv hg hb HV1 HB1
  go_wp2_with fail
  rw [rounds_succ]
  go_wp2_with fail
  go_ret
  refine ⟨_, rfl, ?_, HB2.out⟩
  rw [HE.out]
  refine OwnI.of_eq ?_ HV2.out
  congr 1 <;> (simp only [List.cons.injEq, and_true]; omega)
set_option maxHeartbeats 3200000 in
set_option maxRecDepth 100000 in
theorem vappend4_any {B : Nat} (A : Option Addr) (n c : Nat) (xs : List Int) (N : Int) (w : World) (hr : Rds B w .u8 A n c xs) (hn : n ≤ 100000) (ht : Tz w) (k : sizeV N = 4) (h0 : 16384 ≤ N) (h1 : N < 1073741824) : Calls Tryd.prog 39 #[.slice A n c, .int .i64 N] w (BytesPost (xs ++ varB N) w) := by
  have key := cloneB_any A n c xs w hr (by omega)
  have HT := Lib.hid ht
  have HL := Lib.hid hr.len
  have HE : Hid (xs ++ varB N = _) := congrArg (xs ++ ·) (varB_four k)
  clear ht hr
  have hV : bits .or .u64 N (IntKind.u64.wrap (IntKind.u64.wrap (ctz 4) * 1073741824)) = 2147483648 + N := u64_or 2147483648 N 30 (by omega) (by decide) (by omega) (by omega) (by omega) (by omega)
  have HVs := Lib.hid hV
  go_enter Tryd.func39, Tryd.ntmps39
  go_wp2_with fail
  refine key.mono ?_
  clear key
  rintro e w1 ⟨v1, rfl, hv1, hb1⟩
  have HT1 := Lib.hid (HT.out.later hb1)
  have HV0 := Lib.hid hv1
  have HB0 := Lib.hid hb1
  have key := vsize_any N w1
  rw [k] at key
  clear hv1 hb1 HT
  go_wp2_with fail
  refine key.mono ?_
  clear key
  rintro e w2 ⟨rfl, rfl⟩
  have key := tz_any 4 (by simp) w1 HT1.out
  go_wp2_with fail
  refine key.mono ?_
  clear key
  rintro e w2 ⟨rfl, rfl⟩
  go_wp2_with fail
  clear hV
  try rw [HVs.out]
  obtain ⟨w0', hw0⟩ : ∃ q, q = w1 := ⟨_, rfl⟩
  rw [← hw0] at HV0 HB0 ⊢
  clear hw0 HT1
  refine wp_loop_rounds 5 ?_
  rw [rounds_succ]
  go_wp2_with (at_builtin; refine wp_app_u8 (ys := [_]) rfl _ _ rfl rfl rfl (HV0.out.below (below_new _)) (RdI.one_at _ .u8 _ _ rfl) rfl ?_ ?_ ?_)
  · have := HB0.out.size; simp; omega
  · have := HL.out; simp; omega
  intro v2 u2 hv hg hb
  have HV1 := Lib.hid hv
  have HB1 := Lib.hid ((HB0.out.alloc HB0.out.size _).trans hb)
  clear hv hg hb HV0 HB0
  go_wp2_with fail
  rw [rounds_succ]
  go_wp2_with (at_builtin; refine wp_app_u8 (ys := [_]) rfl _ _ rfl rfl rfl (HV1.out.below (below_new _)) (RdI.one_at _ .u8 _ _ rfl) rfl ?_ ?_ ?_)
  · have := HB1.out.size; simp; omega
  · have := HL.out; simp; omega
  intro v3 u3 hv hg hb
  have HV2 := Lib.hid hv
  have HB2 := Lib.hid ((HB1.out.alloc HB1.out.size _).trans hb)
  clear hv hg hb HV1 HB1
  go_wp2_with fail
  rw [rounds_succ]
  go_wp2_with (at_builtin; refine wp_app_u8 (ys := [_]) rfl _ _ rfl rfl rfl (HV2.out.below (below_new _)) (RdI.one_at _ .u8 _ _ rfl) rfl ?_ ?_ ?_)
  · have := HB2.out.size; simp; omega
  · have := HL.out; simp; omega
  intro v4 u4 hv hg hb
  have HV3 := Lib.hid hv
  have HB3 := Lib.hid ((HB2.out.alloc HB2.out.size _).trans hb)
  clear hv hg hb HV2 HB2
  go_wp2_with fail
  rw [rounds_succ]
  go_wp2_with (at_builtin; refine wp_app_u8 (ys := [_]) rfl _ _ rfl rfl rfl (HV3.out.below (below_new _)) (RdI.one_at _ .u8 _ _ rfl) rfl ?_ ?_ ?_)
  · have := HB3.out.size; simp; omega
  · have := HL.out; simp; omega
  intro v5 u5 hv hg hb
  have HV4 := Lib.hid hv
  have HB4 := Lib.hid ((HB3.out.alloc HB3.out.size _).trans hb)
  clear hv hg hb HV3 HB3
  go_wp2_with fail
  rw [rounds_succ]
  go_wp2_with fail
  go_ret
  refine ⟨_, rfl, ?_, HB4.out⟩
  rw [HE.out]
  refine OwnI.of_eq ?_ HV4.out
  congr 1 <;> (simp only [List.cons.injEq, and_true]; omega)
set_option maxHeartbeats 3200000 in
set_option maxRecDepth 100000 in
theorem vappend8_any {B : Nat} (A : Option Addr) (n c : Nat) (xs : List Int) (N : Int) (w : World) (hr : Rds B w .u8 A n c xs) (hn : n ≤ 100000) (ht : Tz w) (k : sizeV N = 8) (h0 : 1073741824 ≤ N) (h1 : N ≤ 4611686018427387903) : Calls Tryd.prog 39 #[.slice A n c, .int .i64 N] w (BytesPost (xs ++ varB N) w) := by
  have key := cloneB_any A n c xs w hr (by omega)
  have HT := Lib.hid ht
  have HL := Lib.hid hr.len
  have HE : Hid (xs ++ varB N = _) := congrArg (xs ++ ·) (varB_eight k)
  clear ht hr
  have hV : bits .or .u64 N (IntKind.u64.wrap (IntKind.u64.wrap (ctz 8) * 4611686018427387904)) = 13835058055282163712 + N := u64_or 13835058055282163712 N 62 (by omega) (by decide) (by omega) (by omega) (by omega) (by omega)
  have HVs := Lib.hid hV
  go_enter Tryd.func39, Tryd.ntmps39
  go_wp2_with fail
  refine key.mono ?_
  clear key
  rintro e w1 ⟨v1, rfl, hv1, hb1⟩
  have HT1 := Lib.hid (HT.out.later hb1)
  have HV0 := Lib.hid hv1
  have HB0 := Lib.hid hb1
  have key := vsize_any N w1
  rw [k] at key
  clear hv1 hb1 HT
  go_wp2_with fail
  refine key.mono ?_
  clear key
  rintro e w2 ⟨rfl, rfl⟩
  have key := tz_any 8 (by simp) w1 HT1.out
  go_wp2_with fail
  refine key.mono ?_
  clear key
  rintro e w2 ⟨rfl, rfl⟩
  go_wp2_with fail
  clear hV
  try rw [HVs.out]
  obtain ⟨w0', hw0⟩ : ∃ q, q = w1 := ⟨_, rfl⟩
  rw [← hw0] at HV0 HB0 ⊢
  clear hw0 HT1
  refine wp_loop_rounds 9 ?_
  rw [rounds_succ]
  go_wp2_with (at_builtin; refine wp_app_u8 (ys := [_]) rfl _ _ rfl rfl rfl (HV0.out.below (below_new _)) (RdI.one_at _ .u8 _ _ rfl) rfl ?_ ?_ ?_)
  · have := HB0.out.size; simp; omega
  · have := HL.out; simp; omega
  intro v2 u2 hv hg hb
  have HV1 := Lib.hid hv
  have HB1 := Lib.hid ((HB0.out.alloc HB0.out.size _).trans hb)
  clear hv hg hb HV0 HB0
  go_wp2_with fail
  rw [rounds_succ]
  go_wp2_with (at_builtin; refine wp_app_u8 (ys := [_]) rfl _ _ rfl rfl rfl (HV1.out.below (below_new _)) (RdI.one_at _ .u8 _ _ rfl) rfl ?_ ?_ ?_)
  · have := HB1.out.size; simp; omega
  · have := HL.out; simp; omega
  intro v3 u3 hv hg hb
  have HV2 := Lib.hid hv
  have HB2 := Lib.hid ((HB1.out.alloc HB1.out.size _).trans hb)
  clear hv hg hb HV1 HB1
  go_wp2_with fail
  rw [rounds_succ]
  go_wp2_with (at_builtin; refine wp_app_u8 (ys := [_]) rfl _ _ rfl rfl rfl (HV2.out.below (below_new _)) (RdI.one_at _ .u8 _ _ rfl) rfl ?_ ?_ ?_)
  · have := HB2.out.size; simp; omega
  · have := HL.out; simp; omega
  intro v4 u4 hv hg hb
  have HV3 := Lib.hid hv
  have HB3 := Lib.hid ((HB2.out.alloc HB2.out.size _).trans hb)
  clear hv hg hb HV2 HB2
  go_wp2_with fail
  rw [rounds_succ]
  go_wp2_with (at_builtin; refine wp_app_u8 (ys := [_]) rfl _ _ rfl rfl rfl (HV3.out.below (below_new _)) (RdI.one_at _ .u8 _ _ rfl) rfl ?_ ?_ ?_)
  · have := HB3.out.size; simp; omega
  · have := HL.out; simp; omega
  intro v5 u5 hv hg hb
  have HV4 := Lib.hid hv
  have HB4 := Lib.hid ((HB3.out.alloc HB3.out.size _).trans hb)
  clear hv hg hb HV3 HB3
  go_wp2_with fail
  rw [rounds_succ]
  go_wp2_with (at_builtin; refine wp_app_u8 (ys := [_]) rfl _ _ rfl rfl rfl (HV4.out.below (below_new _)) (RdI.one_at _ .u8 _ _ rfl) rfl ?_ ?_ ?_)
  · have := HB4.out.size; simp; omega
  · have := HL.out; simp; omega
  intro v6 u6 hv hg hb
  have HV5 := Lib.hid hv
  have HB5 := Lib.hid ((HB4.out.alloc HB4.out.size _).trans hb)
  clear hv hg hb HV4 HB4
  go_wp2_with fail
  rw [rounds_succ]
  go_wp2_with (at_builtin; refine wp_app_u8 (ys := [_]) rfl _ _ rfl rfl rfl (HV5.out.below (below_new _)) (RdI.one_at _ .u8 _ _ rfl) rfl ?_ ?_ ?_)
  · have := HB5.out.size; simp; omega
  · have := HL.out; simp; omega
  intro v7 u7 hv hg hb
  have HV6 := Lib.hid hv
  have HB6 := Lib.hid ((HB5.out.alloc HB5.out.size _).trans hb)
  clear hv hg hb HV5 HB5
  go_wp2_with fail
  rw [rounds_succ]
  go_wp2_with (at_builtin; refine wp_app_u8 (ys := [_]) rfl _ _ rfl rfl rfl (HV6.out.below (below_new _)) (RdI.one_at _ .u8 _ _ rfl) rfl ?_ ?_ ?_)
  · have := HB6.out.size; simp; omega
  · have := HL.out; simp; omega
  intro v8 u8 hv hg hb
  have HV7 := Lib.hid hv
  have HB7 := Lib.hid ((HB6.out.alloc HB6.out.size _).trans hb)
  clear hv hg hb HV6 HB6
  go_wp2_with fail
  rw [rounds_succ]
  go_wp2_with (at_builtin; refine wp_app_u8 (ys := [_]) rfl _ _ rfl rfl rfl (HV7.out.below (below_new _)) (RdI.one_at _ .u8 _ _ rfl) rfl ?_ ?_ ?_)
  · have := HB7.out.size; simp; omega
  · have := HL.out; simp; omega
  intro v9 u9 hv hg hb
  have HV8 := Lib.hid hv
  have HB8 := Lib.hid ((HB7.out.alloc HB7.out.size _).trans hb)
  clear hv hg hb HV7 HB7
  go_wp2_with fail
  rw [rounds_succ]
  go_wp2_with fail
  go_ret
  refine ⟨_, rfl, ?_, HB8.out⟩
  rw [HE.out]
  refine OwnI.of_eq ?_ HV8.out
  congr 1 <;> (simp only [List.cons.injEq, and_true]; omega)
set_option maxHeartbeats 800000 in
theorem vappend0_any {B : Nat} (A : Option Addr) (n c : Nat) (xs : List Int) (N : Int) (w : World) (hr : Rds B w .u8 A n c xs) (hn : n ≤ 100000) (k : sizeV N = 0) : Calls Tryd.prog 39 #[.slice A n c, .int .i64 N] w (BytesPost (xs ++ varB N) w) := by
  have key := cloneB_any A n c xs w hr (by omega)
  have HE : Hid (xs ++ varB N = xs) := by show _ = _; rw [varB_none k, List.append_nil]
  clear hr
  go_enter Tryd.func39, Tryd.ntmps39
  go_wp2_with fail
  refine key.mono ?_
  clear key
  rintro e w1 ⟨v1, rfl, hv1, hb1⟩
  have HV0 := Lib.hid hv1
  have HB0 := Lib.hid hb1
  have key := vsize_any N w1
  rw [k] at key
  clear hv1 hb1
  go_wp2_with fail
  refine key.mono ?_
  clear key
  rintro e w2 ⟨rfl, rfl⟩
  go_wp2_with fail
  go_ret
  rw [HE.out]
  exact ⟨_, rfl, HV0.out, HB0.out⟩
theorem vappend_any {B : Nat} (A : Option Addr) (n c : Nat) (xs : List Int) (N : Int) (w : World) (hr : Rds B w .u8 A n c xs) (hn : n ≤ 100000) (ht : Tz w) : Calls Tryd.prog 39 #[.slice A n c, .int .i64 N] w (BytesPost (xs ++ varB N) w) := by
  rcases sizeV_cases N with ⟨k, h1⟩ | ⟨k, h1, h2⟩ | ⟨k, h1, h2⟩ | ⟨k, h1, h2⟩ | ⟨k, h1, h2⟩
  · exact vappend0_any A n c xs N w hr hn k
  · exact vappend1_any A n c xs N w hr hn ht k h1 h2
  · exact vappend2_any A n c xs N w hr hn ht k h1 h2
  · exact vappend4_any A n c xs N w hr hn ht k h1 h2
  · exact vappend8_any A n c xs N w hr hn ht k h1 h2
end Go.Proofs.YtmaedahleenlgaaDoor

/- Numbers of one to eight bytes: Read, and the reference's. No condition. -/
set_option linter.unusedVariables false
set_option linter.unusedSimpArgs false
namespace Go.Proofs.YtmaedahleenlgaaDoor
open Go Go.RowKit

theorem u64_join (x y : Int) (hx₀ : 0 ≤ x) (hx₁ : x < 18446744073709551616) (hx : x % 256 = 0) (h₀ : 0 ≤ y) (h₁ : y ≤ 255) : bits .or .u64 x y = x + y :=
  bits_join .u64 64 (by decide) (fun n h0 h1 => by simp [IntKind.wrap, IntKind.bits, IntKind.signed]; omega) 8 x y hx₀ (by omega) (by omega) h₀ (by omega) (by omega)
def ReadPost (xs : List Int) (w : World) (e : Ending) (w' : World) : Prop := e = .returned (.tuple #[.int .i64 (readV xs).1, .int .i64 ((readV xs).2.1 : Nat), .int .i64 (readV xs).2.2]) ∧ w = w'
theorem readV_nil : readV [] = (0, 0, 2) := rfl
theorem readV_short {y : Int} {r : List Int} (h : (y :: r).length < sizeOfB y) : readV (y :: r) = (0, 0, 2) := by
  unfold readV
  rw [if_neg (by simp), if_pos (by simpa [nth] using h)]
theorem readV_go {y : Int} {r : List Int} {s : Nat} {v : Int} (hs : sizeOfB y = s) (hl : s ≤ (y :: r).length) (hv : beF (y % 64) (((y :: r).take s).drop 1) = v) :
    readV (y :: r) = if sizeV v = s then (v, s, 0) else (0, 0, 3) := by
  have e : nth (y :: r) 0 = y := rfl
  unfold readV
  rw [e, hs, hv, if_neg (by simp), if_neg (by omega)]
  by_cases h : sizeV v = s
  · rw [if_pos h, if_neg (by simp [h])]
  · rw [if_neg h, if_pos h]
theorem sizeOfB_one {y : Int} (h : y < 64) : sizeOfB y = 1 := if_pos h
theorem sizeOfB_two {y : Int} (h : 64 ≤ y) (h2 : y < 128) : sizeOfB y = 2 := by unfold sizeOfB; rw [if_neg (by omega), if_pos h2]
theorem sizeOfB_four {y : Int} (h : 128 ≤ y) (h2 : y < 192) : sizeOfB y = 4 := by unfold sizeOfB; rw [if_neg (by omega), if_neg (by omega), if_pos h2]
theorem sizeOfB_eight {y : Int} (h : 192 ≤ y) : sizeOfB y = 8 := by unfold sizeOfB; rw [if_neg (by omega), if_neg (by omega), if_neg (by omega)]
set_option maxHeartbeats 800000 in
theorem vread_nil (A : Option Addr) (c : Nat) (w : World) : Calls Tryd.prog 46 #[.slice A 0 c] w (ReadPost [] w) := by
  unfold ReadPost
  rw [readV_nil]
  go_enter Tryd.func46, Tryd.ntmps46
  go_wp2_with fail
  go_returns
  exact ⟨rfl, rfl⟩
set_option maxHeartbeats 800000 in
theorem rread_nil (A : Option Addr) (c : Nat) (w : World) : Calls Tryd.prog 36 #[.slice A 0 c] w (ReadPost [] w) := by
  unfold ReadPost
  rw [readV_nil]
  go_enter Tryd.func36, Tryd.ntmps36
  go_wp2_with fail
  go_returns
  exact ⟨rfl, rfl⟩
set_option maxHeartbeats 3200000 in
theorem vread_one (b o n c : Nat) (y0 : Int) (r : List Int) (w : World) (l0 : 0 ≤ y0) (u0 : y0 ≤ 255) (g0 : 0 ≤ y0) (g1 : y0 < 64) (hn : n = r.length + 1) (hc : n ≤ c) (hm : c ≤ 9223372036854775807) (x0 : w.cell? ⟨b, o, none⟩ = some (.int .u8 y0)) :
    Calls Tryd.prog 46 #[.slice (some ⟨b, o, none⟩) n c] w (ReadPost (y0 :: r) w) := by
  obtain ⟨V, hV⟩ : ∃ V, V = y0 % 64 := ⟨_, rfl⟩
  have HV := Lib.hid hV
  have HR : Hid (readV (y0 :: r) = if sizeV V = 1 then (V, 1, 0) else (0, 0, 3)) := by show _ = _; rw [hV]; exact readV_go (sizeOfB_one (by omega)) (by simp) rfl
  have v0 : 0 ≤ V := by omega
  have v1 : V ≤ 4611686018427387903 := by omega
  clear hV
  have hq : y0 / 64 = 0 := by omega
  have hm0 : bits .and .u8 y0 63 = y0 % 64 := u8_and63 _ (by omega) (by omega)
  by_cases hc1 : c = 1
  · go_enter Tryd.func46, Tryd.ntmps46
    go_wp2_with fail
    refine wp_loop_rounds 1 ?_
    rw [rounds_succ]
    go_wp2_with fail
    rw [← HV.out]
    clear  HV
    have key := vsize_any V w
    refine key.mono ?_
    clear key
    rintro e w1 ⟨rfl, rfl⟩
    by_cases hz : sizeV V = 1
    · have hzb : (((sizeV V : Nat) : Int) != 1) = false := by rw [hz]; rfl
      have HZ := Lib.hid hz
      clear hz
      go_wp2_with fail
      go_returns
      exact ⟨by rw [HR.out, if_pos HZ.out]; rfl, rfl⟩
    · have hzb : (((sizeV V : Nat) : Int) != 1) = true := by rw [bne_iff_ne]; omega
      have HZ := Lib.hid hz
      clear hz
      go_wp2_with fail
      go_returns
      exact ⟨by rw [HR.out, if_neg HZ.out]; rfl, rfl⟩
  · go_enter Tryd.func46, Tryd.ntmps46
    go_wp2_with fail
    refine wp_loop_rounds 1 ?_
    rw [rounds_succ]
    go_wp2_with fail
    rw [← HV.out]
    clear  HV
    have key := vsize_any V w
    refine key.mono ?_
    clear key
    rintro e w1 ⟨rfl, rfl⟩
    by_cases hz : sizeV V = 1
    · have hzb : (((sizeV V : Nat) : Int) != 1) = false := by rw [hz]; rfl
      have HZ := Lib.hid hz
      clear hz
      go_wp2_with fail
      go_returns
      exact ⟨by rw [HR.out, if_pos HZ.out]; rfl, rfl⟩
    · have hzb : (((sizeV V : Nat) : Int) != 1) = true := by rw [bne_iff_ne]; omega
      have HZ := Lib.hid hz
      clear hz
      go_wp2_with fail
      go_returns
      exact ⟨by rw [HR.out, if_neg HZ.out]; rfl, rfl⟩

set_option maxHeartbeats 3200000 in
theorem vread_two (b o n c : Nat) (y0 y1 : Int) (r : List Int) (w : World) (l0 : 0 ≤ y0) (u0 : y0 ≤ 255) (l1 : 0 ≤ y1) (u1 : y1 ≤ 255) (g0 : 64 ≤ y0) (g1 : y0 < 128) (hn : n = r.length + 2) (hc : n ≤ c) (hm : c ≤ 9223372036854775807) (x0 : w.cell? ⟨b, o, none⟩ = some (.int .u8 y0)) (x1 : w.cell? ⟨b, o + 1, none⟩ = some (.int .u8 y1)) :
    Calls Tryd.prog 46 #[.slice (some ⟨b, o, none⟩) n c] w (ReadPost (y0 :: y1 :: r) w) := by
  obtain ⟨V, hV⟩ : ∃ V, V = (y0 % 64) * 256 + y1 := ⟨_, rfl⟩
  have HV := Lib.hid hV
  have HR : Hid (readV (y0 :: y1 :: r) = if sizeV V = 2 then (V, 2, 0) else (0, 0, 3)) := by show _ = _; rw [hV]; exact readV_go (sizeOfB_two (by omega) (by omega)) (by simp) rfl
  have v0 : 0 ≤ V := by omega
  have v1 : V ≤ 4611686018427387903 := by omega
  clear hV
  have hq : y0 / 64 = 1 := by omega
  have hm0 : bits .and .u8 y0 63 = y0 % 64 := u8_and63 _ (by omega) (by omega)
  have j1 : bits .or .u64 ((y0 % 64) * 256) y1 = (y0 % 64) * 256 + y1 := u64_join _ _ (by omega) (by omega) (by omega) (by omega) (by omega)
  go_enter Tryd.func46, Tryd.ntmps46
  go_wp2_with fail
  refine wp_loop_rounds 2 ?_
  rw [rounds_succ]
  go_wp2_with fail
  rw [rounds_succ]
  go_wp2_with fail
  rw [← HV.out]
  clear j1 HV
  have key := vsize_any V w
  refine key.mono ?_
  clear key
  rintro e w1 ⟨rfl, rfl⟩
  by_cases hz : sizeV V = 2
  · have hzb : (((sizeV V : Nat) : Int) != 2) = false := by rw [hz]; rfl
    have HZ := Lib.hid hz
    clear hz
    go_wp2_with fail
    go_returns
    exact ⟨by rw [HR.out, if_pos HZ.out]; rfl, rfl⟩
  · have hzb : (((sizeV V : Nat) : Int) != 2) = true := by rw [bne_iff_ne]; omega
    have HZ := Lib.hid hz
    clear hz
    go_wp2_with fail
    go_returns
    exact ⟨by rw [HR.out, if_neg HZ.out]; rfl, rfl⟩

set_option maxHeartbeats 3200000 in
theorem vread_four (b o n c : Nat) (y0 y1 y2 y3 : Int) (r : List Int) (w : World) (l0 : 0 ≤ y0) (u0 : y0 ≤ 255) (l1 : 0 ≤ y1) (u1 : y1 ≤ 255) (l2 : 0 ≤ y2) (u2 : y2 ≤ 255) (l3 : 0 ≤ y3) (u3 : y3 ≤ 255) (g0 : 128 ≤ y0) (g1 : y0 < 192) (hn : n = r.length + 4) (hc : n ≤ c) (hm : c ≤ 9223372036854775807) (x0 : w.cell? ⟨b, o, none⟩ = some (.int .u8 y0)) (x1 : w.cell? ⟨b, o + 1, none⟩ = some (.int .u8 y1)) (x2 : w.cell? ⟨b, o + 2, none⟩ = some (.int .u8 y2)) (x3 : w.cell? ⟨b, o + 3, none⟩ = some (.int .u8 y3)) :
    Calls Tryd.prog 46 #[.slice (some ⟨b, o, none⟩) n c] w (ReadPost (y0 :: y1 :: y2 :: y3 :: r) w) := by
  obtain ⟨V, hV⟩ : ∃ V, V = (((y0 % 64) * 256 + y1) * 256 + y2) * 256 + y3 := ⟨_, rfl⟩
  have HV := Lib.hid hV
  have HR : Hid (readV (y0 :: y1 :: y2 :: y3 :: r) = if sizeV V = 4 then (V, 4, 0) else (0, 0, 3)) := by show _ = _; rw [hV]; exact readV_go (sizeOfB_four (by omega) (by omega)) (by simp) rfl
  have v0 : 0 ≤ V := by omega
  have v1 : V ≤ 4611686018427387903 := by omega
  clear hV
  have hq : y0 / 64 = 2 := by omega
  have hm0 : bits .and .u8 y0 63 = y0 % 64 := u8_and63 _ (by omega) (by omega)
  have j1 : bits .or .u64 ((y0 % 64) * 256) y1 = (y0 % 64) * 256 + y1 := u64_join _ _ (by omega) (by omega) (by omega) (by omega) (by omega)
  have j2 : bits .or .u64 (((y0 % 64) * 256 + y1) * 256) y2 = ((y0 % 64) * 256 + y1) * 256 + y2 := u64_join _ _ (by omega) (by omega) (by omega) (by omega) (by omega)
  have j3 : bits .or .u64 ((((y0 % 64) * 256 + y1) * 256 + y2) * 256) y3 = (((y0 % 64) * 256 + y1) * 256 + y2) * 256 + y3 := u64_join _ _ (by omega) (by omega) (by omega) (by omega) (by omega)
  go_enter Tryd.func46, Tryd.ntmps46
  go_wp2_with fail
  refine wp_loop_rounds 4 ?_
  rw [rounds_succ]
  go_wp2_with fail
  rw [rounds_succ]
  go_wp2_with fail
  rw [rounds_succ]
  go_wp2_with fail
  rw [rounds_succ]
  go_wp2_with fail
  rw [← HV.out]
  clear j1 j2 j3 HV
  have key := vsize_any V w
  refine key.mono ?_
  clear key
  rintro e w1 ⟨rfl, rfl⟩
  by_cases hz : sizeV V = 4
  · have hzb : (((sizeV V : Nat) : Int) != 4) = false := by rw [hz]; rfl
    have HZ := Lib.hid hz
    clear hz
    go_wp2_with fail
    go_returns
    exact ⟨by rw [HR.out, if_pos HZ.out]; rfl, rfl⟩
  · have hzb : (((sizeV V : Nat) : Int) != 4) = true := by rw [bne_iff_ne]; omega
    have HZ := Lib.hid hz
    clear hz
    go_wp2_with fail
    go_returns
    exact ⟨by rw [HR.out, if_neg HZ.out]; rfl, rfl⟩

set_option maxHeartbeats 3200000 in
theorem vread_eight (b o n c : Nat) (y0 y1 y2 y3 y4 y5 y6 y7 : Int) (r : List Int) (w : World) (l0 : 0 ≤ y0) (u0 : y0 ≤ 255) (l1 : 0 ≤ y1) (u1 : y1 ≤ 255) (l2 : 0 ≤ y2) (u2 : y2 ≤ 255) (l3 : 0 ≤ y3) (u3 : y3 ≤ 255) (l4 : 0 ≤ y4) (u4 : y4 ≤ 255) (l5 : 0 ≤ y5) (u5 : y5 ≤ 255) (l6 : 0 ≤ y6) (u6 : y6 ≤ 255) (l7 : 0 ≤ y7) (u7 : y7 ≤ 255) (g0 : 192 ≤ y0) (g1 : y0 < 256) (hn : n = r.length + 8) (hc : n ≤ c) (hm : c ≤ 9223372036854775807) (x0 : w.cell? ⟨b, o, none⟩ = some (.int .u8 y0)) (x1 : w.cell? ⟨b, o + 1, none⟩ = some (.int .u8 y1)) (x2 : w.cell? ⟨b, o + 2, none⟩ = some (.int .u8 y2)) (x3 : w.cell? ⟨b, o + 3, none⟩ = some (.int .u8 y3)) (x4 : w.cell? ⟨b, o + 4, none⟩ = some (.int .u8 y4)) (x5 : w.cell? ⟨b, o + 5, none⟩ = some (.int .u8 y5)) (x6 : w.cell? ⟨b, o + 6, none⟩ = some (.int .u8 y6)) (x7 : w.cell? ⟨b, o + 7, none⟩ = some (.int .u8 y7)) :
    Calls Tryd.prog 46 #[.slice (some ⟨b, o, none⟩) n c] w (ReadPost (y0 :: y1 :: y2 :: y3 :: y4 :: y5 :: y6 :: y7 :: r) w) := by
  obtain ⟨V, hV⟩ : ∃ V, V = (((((((y0 % 64) * 256 + y1) * 256 + y2) * 256 + y3) * 256 + y4) * 256 + y5) * 256 + y6) * 256 + y7 := ⟨_, rfl⟩
  have HV := Lib.hid hV
  have HR : Hid (readV (y0 :: y1 :: y2 :: y3 :: y4 :: y5 :: y6 :: y7 :: r) = if sizeV V = 8 then (V, 8, 0) else (0, 0, 3)) := by show _ = _; rw [hV]; exact readV_go (sizeOfB_eight (by omega)) (by simp) rfl
  have v0 : 0 ≤ V := by omega
  have v1 : V ≤ 4611686018427387903 := by omega
  clear hV
  have hq : y0 / 64 = 3 := by omega
  have hm0 : bits .and .u8 y0 63 = y0 % 64 := u8_and63 _ (by omega) (by omega)
  have j1 : bits .or .u64 ((y0 % 64) * 256) y1 = (y0 % 64) * 256 + y1 := u64_join _ _ (by omega) (by omega) (by omega) (by omega) (by omega)
  have j2 : bits .or .u64 (((y0 % 64) * 256 + y1) * 256) y2 = ((y0 % 64) * 256 + y1) * 256 + y2 := u64_join _ _ (by omega) (by omega) (by omega) (by omega) (by omega)
  have j3 : bits .or .u64 ((((y0 % 64) * 256 + y1) * 256 + y2) * 256) y3 = (((y0 % 64) * 256 + y1) * 256 + y2) * 256 + y3 := u64_join _ _ (by omega) (by omega) (by omega) (by omega) (by omega)
  have j4 : bits .or .u64 (((((y0 % 64) * 256 + y1) * 256 + y2) * 256 + y3) * 256) y4 = ((((y0 % 64) * 256 + y1) * 256 + y2) * 256 + y3) * 256 + y4 := u64_join _ _ (by omega) (by omega) (by omega) (by omega) (by omega)
  have j5 : bits .or .u64 ((((((y0 % 64) * 256 + y1) * 256 + y2) * 256 + y3) * 256 + y4) * 256) y5 = (((((y0 % 64) * 256 + y1) * 256 + y2) * 256 + y3) * 256 + y4) * 256 + y5 := u64_join _ _ (by omega) (by omega) (by omega) (by omega) (by omega)
  have j6 : bits .or .u64 (((((((y0 % 64) * 256 + y1) * 256 + y2) * 256 + y3) * 256 + y4) * 256 + y5) * 256) y6 = ((((((y0 % 64) * 256 + y1) * 256 + y2) * 256 + y3) * 256 + y4) * 256 + y5) * 256 + y6 := u64_join _ _ (by omega) (by omega) (by omega) (by omega) (by omega)
  have j7 : bits .or .u64 ((((((((y0 % 64) * 256 + y1) * 256 + y2) * 256 + y3) * 256 + y4) * 256 + y5) * 256 + y6) * 256) y7 = (((((((y0 % 64) * 256 + y1) * 256 + y2) * 256 + y3) * 256 + y4) * 256 + y5) * 256 + y6) * 256 + y7 := u64_join _ _ (by omega) (by omega) (by omega) (by omega) (by omega)
  go_enter Tryd.func46, Tryd.ntmps46
  go_wp2_with fail
  refine wp_loop_rounds 8 ?_
  rw [rounds_succ]
  go_wp2_with fail
  rw [rounds_succ]
  go_wp2_with fail
  rw [rounds_succ]
  go_wp2_with fail
  rw [rounds_succ]
  go_wp2_with fail
  rw [rounds_succ]
  go_wp2_with fail
  rw [rounds_succ]
  go_wp2_with fail
  rw [rounds_succ]
  go_wp2_with fail
  rw [rounds_succ]
  go_wp2_with fail
  rw [← HV.out]
  clear j1 j2 j3 j4 j5 j6 j7 HV
  have key := vsize_any V w
  refine key.mono ?_
  clear key
  rintro e w1 ⟨rfl, rfl⟩
  by_cases hz : sizeV V = 8
  · have hzb : (((sizeV V : Nat) : Int) != 8) = false := by rw [hz]; rfl
    have HZ := Lib.hid hz
    clear hz
    go_wp2_with fail
    go_returns
    exact ⟨by rw [HR.out, if_pos HZ.out]; rfl, rfl⟩
  · have hzb : (((sizeV V : Nat) : Int) != 8) = true := by rw [bne_iff_ne]; omega
    have HZ := Lib.hid hz
    clear hz
    go_wp2_with fail
    go_returns
    exact ⟨by rw [HR.out, if_neg HZ.out]; rfl, rfl⟩
set_option maxHeartbeats 3200000 in
theorem rread_one (b o n c : Nat) (y0 : Int) (r : List Int) (w : World) (l0 : 0 ≤ y0) (u0 : y0 ≤ 255) (g0 : 0 ≤ y0) (g1 : y0 < 64) (hn : n = r.length + 1) (hc : n ≤ c) (hm : c ≤ 9223372036854775807) (x0 : w.cell? ⟨b, o, none⟩ = some (.int .u8 y0)) :
    Calls Tryd.prog 36 #[.slice (some ⟨b, o, none⟩) n c] w (ReadPost (y0 :: r) w) := by
  obtain ⟨V, hV⟩ : ∃ V, V = y0 % 64 := ⟨_, rfl⟩
  have HV := Lib.hid hV
  have HR : Hid (readV (y0 :: r) = if sizeV V = 1 then (V, 1, 0) else (0, 0, 3)) := by show _ = _; rw [hV]; exact readV_go (sizeOfB_one (by omega)) (by simp) (by simp only [beF, List.take_succ_cons, List.take_zero, List.drop_succ_cons, List.drop_zero, List.foldl_cons, List.foldl_nil])
  have v0 : 0 ≤ V := by omega
  have v1 : V ≤ 4611686018427387903 := by omega
  clear hV
  have hq : Int.tdiv y0 64 = 0 := by rw [Int.tdiv_eq_ediv_of_nonneg l0]; omega
  have hm0 : Int.tmod y0 64 = y0 % 64 := Int.tmod_eq_emod_of_nonneg l0
  have hq' : y0 / 64 = 0 := by omega
  go_enter Tryd.func36, Tryd.ntmps36
  go_wp2_with fail
  refine wp_loop_rounds 1 ?_
  rw [rounds_succ]
  go_wp2_with fail
  refine wp_loop_rounds 1 ?_
  rw [rounds_succ]
  go_wp2_with fail
  rw [← HV.out]
  clear HV
  have key := rsize_any V w
  refine key.mono ?_
  clear key
  rintro e w1 ⟨rfl, rfl⟩
  by_cases hz : sizeV V = 1
  · have hzb : (((sizeV V : Nat) : Int) != 1) = false := by rw [hz]; rfl
    have HZ := Lib.hid hz
    clear hz
    go_wp2_with fail
    go_returns
    exact ⟨by rw [HR.out, if_pos HZ.out]; rfl, rfl⟩
  · have hzb : (((sizeV V : Nat) : Int) != 1) = true := by rw [bne_iff_ne]; omega
    have HZ := Lib.hid hz
    clear hz
    go_wp2_with fail
    go_returns
    exact ⟨by rw [HR.out, if_neg HZ.out]; rfl, rfl⟩
set_option maxHeartbeats 3200000 in
theorem rread_two (b o n c : Nat) (y0 y1 : Int) (r : List Int) (w : World) (l0 : 0 ≤ y0) (u0 : y0 ≤ 255) (l1 : 0 ≤ y1) (u1 : y1 ≤ 255) (g0 : 64 ≤ y0) (g1 : y0 < 128) (hn : n = r.length + 2) (hc : n ≤ c) (hm : c ≤ 9223372036854775807) (x0 : w.cell? ⟨b, o, none⟩ = some (.int .u8 y0)) (x1 : w.cell? ⟨b, o + 1, none⟩ = some (.int .u8 y1)) :
    Calls Tryd.prog 36 #[.slice (some ⟨b, o, none⟩) n c] w (ReadPost (y0 :: y1 :: r) w) := by
  obtain ⟨V, hV⟩ : ∃ V, V = 256 * (y0 % 64) + y1 := ⟨_, rfl⟩
  have HV := Lib.hid hV
  have HR : Hid (readV (y0 :: y1 :: r) = if sizeV V = 2 then (V, 2, 0) else (0, 0, 3)) := by show _ = _; rw [hV]; exact readV_go (sizeOfB_two (by omega) (by omega)) (by simp) (by simp only [beF, List.take_succ_cons, List.take_zero, List.drop_succ_cons, List.drop_zero, List.foldl_cons, List.foldl_nil]; omega)
  have v0 : 0 ≤ V := by omega
  have v1 : V ≤ 4611686018427387903 := by omega
  clear hV
  have hq : Int.tdiv y0 64 = 1 := by rw [Int.tdiv_eq_ediv_of_nonneg l0]; omega
  have hm0 : Int.tmod y0 64 = y0 % 64 := Int.tmod_eq_emod_of_nonneg l0
  have hq' : y0 / 64 = 1 := by omega
  go_enter Tryd.func36, Tryd.ntmps36
  go_wp2_with fail
  refine wp_loop_rounds 2 ?_
  rw [rounds_succ]
  go_wp2_with fail
  rw [rounds_succ]
  go_wp2_with fail
  refine wp_loop_rounds 2 ?_
  rw [rounds_succ]
  go_wp2_with fail
  rw [rounds_succ]
  go_wp2_with fail
  rw [← HV.out]
  clear HV
  have key := rsize_any V w
  refine key.mono ?_
  clear key
  rintro e w1 ⟨rfl, rfl⟩
  by_cases hz : sizeV V = 2
  · have hzb : (((sizeV V : Nat) : Int) != 2) = false := by rw [hz]; rfl
    have HZ := Lib.hid hz
    clear hz
    go_wp2_with fail
    go_returns
    exact ⟨by rw [HR.out, if_pos HZ.out]; rfl, rfl⟩
  · have hzb : (((sizeV V : Nat) : Int) != 2) = true := by rw [bne_iff_ne]; omega
    have HZ := Lib.hid hz
    clear hz
    go_wp2_with fail
    go_returns
    exact ⟨by rw [HR.out, if_neg HZ.out]; rfl, rfl⟩
set_option maxHeartbeats 3200000 in
theorem rread_four (b o n c : Nat) (y0 y1 y2 y3 : Int) (r : List Int) (w : World) (l0 : 0 ≤ y0) (u0 : y0 ≤ 255) (l1 : 0 ≤ y1) (u1 : y1 ≤ 255) (l2 : 0 ≤ y2) (u2 : y2 ≤ 255) (l3 : 0 ≤ y3) (u3 : y3 ≤ 255) (g0 : 128 ≤ y0) (g1 : y0 < 192) (hn : n = r.length + 4) (hc : n ≤ c) (hm : c ≤ 9223372036854775807) (x0 : w.cell? ⟨b, o, none⟩ = some (.int .u8 y0)) (x1 : w.cell? ⟨b, o + 1, none⟩ = some (.int .u8 y1)) (x2 : w.cell? ⟨b, o + 2, none⟩ = some (.int .u8 y2)) (x3 : w.cell? ⟨b, o + 3, none⟩ = some (.int .u8 y3)) :
    Calls Tryd.prog 36 #[.slice (some ⟨b, o, none⟩) n c] w (ReadPost (y0 :: y1 :: y2 :: y3 :: r) w) := by
  obtain ⟨V, hV⟩ : ∃ V, V = 256 * (256 * (256 * (y0 % 64) + y1) + y2) + y3 := ⟨_, rfl⟩
  have HV := Lib.hid hV
  have HR : Hid (readV (y0 :: y1 :: y2 :: y3 :: r) = if sizeV V = 4 then (V, 4, 0) else (0, 0, 3)) := by show _ = _; rw [hV]; exact readV_go (sizeOfB_four (by omega) (by omega)) (by simp) (by simp only [beF, List.take_succ_cons, List.take_zero, List.drop_succ_cons, List.drop_zero, List.foldl_cons, List.foldl_nil]; omega)
  have v0 : 0 ≤ V := by omega
  have v1 : V ≤ 4611686018427387903 := by omega
  clear hV
  have hq : Int.tdiv y0 64 = 2 := by rw [Int.tdiv_eq_ediv_of_nonneg l0]; omega
  have hm0 : Int.tmod y0 64 = y0 % 64 := Int.tmod_eq_emod_of_nonneg l0
  have hq' : y0 / 64 = 2 := by omega
  go_enter Tryd.func36, Tryd.ntmps36
  go_wp2_with fail
  refine wp_loop_rounds 3 ?_
  rw [rounds_succ]
  go_wp2_with fail
  rw [rounds_succ]
  go_wp2_with fail
  rw [rounds_succ]
  go_wp2_with fail
  refine wp_loop_rounds 4 ?_
  rw [rounds_succ]
  go_wp2_with fail
  rw [rounds_succ]
  go_wp2_with fail
  rw [rounds_succ]
  go_wp2_with fail
  rw [rounds_succ]
  go_wp2_with fail
  rw [← HV.out]
  clear HV
  have key := rsize_any V w
  refine key.mono ?_
  clear key
  rintro e w1 ⟨rfl, rfl⟩
  by_cases hz : sizeV V = 4
  · have hzb : (((sizeV V : Nat) : Int) != 4) = false := by rw [hz]; rfl
    have HZ := Lib.hid hz
    clear hz
    go_wp2_with fail
    go_returns
    exact ⟨by rw [HR.out, if_pos HZ.out]; rfl, rfl⟩
  · have hzb : (((sizeV V : Nat) : Int) != 4) = true := by rw [bne_iff_ne]; omega
    have HZ := Lib.hid hz
    clear hz
    go_wp2_with fail
    go_returns
    exact ⟨by rw [HR.out, if_neg HZ.out]; rfl, rfl⟩
set_option maxHeartbeats 3200000 in
theorem rread_eight (b o n c : Nat) (y0 y1 y2 y3 y4 y5 y6 y7 : Int) (r : List Int) (w : World) (l0 : 0 ≤ y0) (u0 : y0 ≤ 255) (l1 : 0 ≤ y1) (u1 : y1 ≤ 255) (l2 : 0 ≤ y2) (u2 : y2 ≤ 255) (l3 : 0 ≤ y3) (u3 : y3 ≤ 255) (l4 : 0 ≤ y4) (u4 : y4 ≤ 255) (l5 : 0 ≤ y5) (u5 : y5 ≤ 255) (l6 : 0 ≤ y6) (u6 : y6 ≤ 255) (l7 : 0 ≤ y7) (u7 : y7 ≤ 255) (g0 : 192 ≤ y0) (g1 : y0 < 256) (hn : n = r.length + 8) (hc : n ≤ c) (hm : c ≤ 9223372036854775807) (x0 : w.cell? ⟨b, o, none⟩ = some (.int .u8 y0)) (x1 : w.cell? ⟨b, o + 1, none⟩ = some (.int .u8 y1)) (x2 : w.cell? ⟨b, o + 2, none⟩ = some (.int .u8 y2)) (x3 : w.cell? ⟨b, o + 3, none⟩ = some (.int .u8 y3)) (x4 : w.cell? ⟨b, o + 4, none⟩ = some (.int .u8 y4)) (x5 : w.cell? ⟨b, o + 5, none⟩ = some (.int .u8 y5)) (x6 : w.cell? ⟨b, o + 6, none⟩ = some (.int .u8 y6)) (x7 : w.cell? ⟨b, o + 7, none⟩ = some (.int .u8 y7)) :
    Calls Tryd.prog 36 #[.slice (some ⟨b, o, none⟩) n c] w (ReadPost (y0 :: y1 :: y2 :: y3 :: y4 :: y5 :: y6 :: y7 :: r) w) := by
  obtain ⟨V, hV⟩ : ∃ V, V = 256 * (256 * (256 * (256 * (256 * (256 * (256 * (y0 % 64) + y1) + y2) + y3) + y4) + y5) + y6) + y7 := ⟨_, rfl⟩
  have HV := Lib.hid hV
  have HR : Hid (readV (y0 :: y1 :: y2 :: y3 :: y4 :: y5 :: y6 :: y7 :: r) = if sizeV V = 8 then (V, 8, 0) else (0, 0, 3)) := by show _ = _; rw [hV]; exact readV_go (sizeOfB_eight (by omega)) (by simp) (by simp only [beF, List.take_succ_cons, List.take_zero, List.drop_succ_cons, List.drop_zero, List.foldl_cons, List.foldl_nil]; omega)
  have v0 : 0 ≤ V := by omega
  have v1 : V ≤ 4611686018427387903 := by omega
  clear hV
  have hq : Int.tdiv y0 64 = 3 := by rw [Int.tdiv_eq_ediv_of_nonneg l0]; omega
  have hm0 : Int.tmod y0 64 = y0 % 64 := Int.tmod_eq_emod_of_nonneg l0
  have hq' : y0 / 64 = 3 := by omega
  go_enter Tryd.func36, Tryd.ntmps36
  go_wp2_with fail
  refine wp_loop_rounds 4 ?_
  rw [rounds_succ]
  go_wp2_with fail
  rw [rounds_succ]
  go_wp2_with fail
  rw [rounds_succ]
  go_wp2_with fail
  rw [rounds_succ]
  go_wp2_with fail
  refine wp_loop_rounds 8 ?_
  rw [rounds_succ]
  go_wp2_with fail
  rw [rounds_succ]
  go_wp2_with fail
  rw [rounds_succ]
  go_wp2_with fail
  rw [rounds_succ]
  go_wp2_with fail
  rw [rounds_succ]
  go_wp2_with fail
  rw [rounds_succ]
  go_wp2_with fail
  rw [rounds_succ]
  go_wp2_with fail
  rw [rounds_succ]
  go_wp2_with fail
  rw [← HV.out]
  clear HV
  have key := rsize_any V w
  refine key.mono ?_
  clear key
  rintro e w1 ⟨rfl, rfl⟩
  by_cases hz : sizeV V = 8
  · have hzb : (((sizeV V : Nat) : Int) != 8) = false := by rw [hz]; rfl
    have HZ := Lib.hid hz
    clear hz
    go_wp2_with fail
    go_returns
    exact ⟨by rw [HR.out, if_pos HZ.out]; rfl, rfl⟩
  · have hzb : (((sizeV V : Nat) : Int) != 8) = true := by rw [bne_iff_ne]; omega
    have HZ := Lib.hid hz
    clear hz
    go_wp2_with fail
    go_returns
    exact ⟨by rw [HR.out, if_neg HZ.out]; rfl, rfl⟩
set_option maxHeartbeats 1600000 in
theorem vread_short_two (b o n c : Nat) (y0 : Int) (r : List Int) (w : World) (l0 : 0 ≤ y0) (u0 : y0 ≤ 255) (g0 : 64 ≤ y0) (g1 : y0 < 128) (hn : n = r.length + 1) (hs : n < 2) (hc : n ≤ c) (hm : c ≤ 9223372036854775807) (x0 : w.cell? ⟨b, o, none⟩ = some (.int .u8 y0)) :
    Calls Tryd.prog 46 #[.slice (some ⟨b, o, none⟩) n c] w (ReadPost (y0 :: r) w) := by
  have HR : Hid (readV (y0 :: r) = (0, 0, 2)) := readV_short (by rw [sizeOfB_two (by omega) (by omega)]; simp; omega)
  have hq : y0 / 64 = 1 := by omega
  go_enter Tryd.func46, Tryd.ntmps46
  go_wp2_with fail
  go_returns
  exact ⟨by rw [HR.out]; rfl, rfl⟩
set_option maxHeartbeats 1600000 in
theorem rread_short_two (b o n c : Nat) (y0 : Int) (r : List Int) (w : World) (l0 : 0 ≤ y0) (u0 : y0 ≤ 255) (g0 : 64 ≤ y0) (g1 : y0 < 128) (hn : n = r.length + 1) (hs : n < 2) (hc : n ≤ c) (hm : c ≤ 9223372036854775807) (x0 : w.cell? ⟨b, o, none⟩ = some (.int .u8 y0)) :
    Calls Tryd.prog 36 #[.slice (some ⟨b, o, none⟩) n c] w (ReadPost (y0 :: r) w) := by
  have HR : Hid (readV (y0 :: r) = (0, 0, 2)) := readV_short (by rw [sizeOfB_two (by omega) (by omega)]; simp; omega)
  have hq : Int.tdiv y0 64 = 1 := by rw [Int.tdiv_eq_ediv_of_nonneg l0]; omega
  have hq' : y0 / 64 = 1 := by omega
  go_enter Tryd.func36, Tryd.ntmps36
  go_wp2_with fail
  refine wp_loop_rounds 2 ?_
  rw [rounds_succ]
  go_wp2_with fail
  rw [rounds_succ]
  go_wp2_with fail
  go_returns
  exact ⟨by rw [HR.out]; rfl, rfl⟩
set_option maxHeartbeats 1600000 in
theorem vread_short_four (b o n c : Nat) (y0 : Int) (r : List Int) (w : World) (l0 : 0 ≤ y0) (u0 : y0 ≤ 255) (g0 : 128 ≤ y0) (g1 : y0 < 192) (hn : n = r.length + 1) (hs : n < 4) (hc : n ≤ c) (hm : c ≤ 9223372036854775807) (x0 : w.cell? ⟨b, o, none⟩ = some (.int .u8 y0)) :
    Calls Tryd.prog 46 #[.slice (some ⟨b, o, none⟩) n c] w (ReadPost (y0 :: r) w) := by
  have HR : Hid (readV (y0 :: r) = (0, 0, 2)) := readV_short (by rw [sizeOfB_four (by omega) (by omega)]; simp; omega)
  have hq : y0 / 64 = 2 := by omega
  go_enter Tryd.func46, Tryd.ntmps46
  go_wp2_with fail
  go_returns
  exact ⟨by rw [HR.out]; rfl, rfl⟩
set_option maxHeartbeats 1600000 in
theorem rread_short_four (b o n c : Nat) (y0 : Int) (r : List Int) (w : World) (l0 : 0 ≤ y0) (u0 : y0 ≤ 255) (g0 : 128 ≤ y0) (g1 : y0 < 192) (hn : n = r.length + 1) (hs : n < 4) (hc : n ≤ c) (hm : c ≤ 9223372036854775807) (x0 : w.cell? ⟨b, o, none⟩ = some (.int .u8 y0)) :
    Calls Tryd.prog 36 #[.slice (some ⟨b, o, none⟩) n c] w (ReadPost (y0 :: r) w) := by
  have HR : Hid (readV (y0 :: r) = (0, 0, 2)) := readV_short (by rw [sizeOfB_four (by omega) (by omega)]; simp; omega)
  have hq : Int.tdiv y0 64 = 2 := by rw [Int.tdiv_eq_ediv_of_nonneg l0]; omega
  have hq' : y0 / 64 = 2 := by omega
  go_enter Tryd.func36, Tryd.ntmps36
  go_wp2_with fail
  refine wp_loop_rounds 3 ?_
  rw [rounds_succ]
  go_wp2_with fail
  rw [rounds_succ]
  go_wp2_with fail
  rw [rounds_succ]
  go_wp2_with fail
  go_returns
  exact ⟨by rw [HR.out]; rfl, rfl⟩
set_option maxHeartbeats 1600000 in
theorem vread_short_eight (b o n c : Nat) (y0 : Int) (r : List Int) (w : World) (l0 : 0 ≤ y0) (u0 : y0 ≤ 255) (g0 : 192 ≤ y0) (g1 : y0 < 256) (hn : n = r.length + 1) (hs : n < 8) (hc : n ≤ c) (hm : c ≤ 9223372036854775807) (x0 : w.cell? ⟨b, o, none⟩ = some (.int .u8 y0)) :
    Calls Tryd.prog 46 #[.slice (some ⟨b, o, none⟩) n c] w (ReadPost (y0 :: r) w) := by
  have HR : Hid (readV (y0 :: r) = (0, 0, 2)) := readV_short (by rw [sizeOfB_eight (by omega)]; simp; omega)
  have hq : y0 / 64 = 3 := by omega
  go_enter Tryd.func46, Tryd.ntmps46
  go_wp2_with fail
  go_returns
  exact ⟨by rw [HR.out]; rfl, rfl⟩
set_option maxHeartbeats 1600000 in
theorem rread_short_eight (b o n c : Nat) (y0 : Int) (r : List Int) (w : World) (l0 : 0 ≤ y0) (u0 : y0 ≤ 255) (g0 : 192 ≤ y0) (g1 : y0 < 256) (hn : n = r.length + 1) (hs : n < 8) (hc : n ≤ c) (hm : c ≤ 9223372036854775807) (x0 : w.cell? ⟨b, o, none⟩ = some (.int .u8 y0)) :
    Calls Tryd.prog 36 #[.slice (some ⟨b, o, none⟩) n c] w (ReadPost (y0 :: r) w) := by
  have HR : Hid (readV (y0 :: r) = (0, 0, 2)) := readV_short (by rw [sizeOfB_eight (by omega)]; simp; omega)
  have hq : Int.tdiv y0 64 = 3 := by rw [Int.tdiv_eq_ediv_of_nonneg l0]; omega
  have hq' : y0 / 64 = 3 := by omega
  go_enter Tryd.func36, Tryd.ntmps36
  go_wp2_with fail
  refine wp_loop_rounds 4 ?_
  rw [rounds_succ]
  go_wp2_with fail
  rw [rounds_succ]
  go_wp2_with fail
  rw [rounds_succ]
  go_wp2_with fail
  rw [rounds_succ]
  go_wp2_with fail
  go_returns
  exact ⟨by rw [HR.out]; rfl, rfl⟩
theorem vread_any {B : Nat} (A : Option Addr) (n c : Nat) (xs : List Int) (w : World) (h : Rds B w .u8 A n c xs) (hb : Byt xs) : Calls Tryd.prog 46 #[.slice A n c] w (ReadPost xs w) := by
  obtain ⟨hl, hc, hm, hcell, -⟩ := h
  match xs, hl with
  | [], hl =>
    obtain rfl : n = 0 := by simpa using hl.symm
    exact vread_nil A c w
  | y0 :: r, hl =>
    obtain ⟨b, o, rfl, hx⟩ := hcell.at_ (by simp)
    have l0 := (hb y0 (by simp)).1
    have u0 := (hb y0 (by simp)).2
    have x0 := hx 0 (by simp)
    have hn : n = r.length + 1 := by simpa using hl.symm
    by_cases g1 : y0 < 64
    · exact vread_one b o n c y0 r w l0 u0 (by omega) g1 hn hc hm x0
    by_cases g2 : y0 < 128
    · by_cases hs : n < 2
      · exact vread_short_two b o n c y0 r w l0 u0 (by omega) g2 hn hs hc hm x0
      match r, hn with
      | y1 :: r, hn =>
        have b1 := hb y1 (by simp)
        have x1 := hx 1 (by simp)
        exact vread_two b o n c y0 y1 r w l0 u0 b1.1 b1.2 (by omega) g2 (by simp at hn; omega) hc hm x0 x1
      | [], hn => exact absurd hn (by simp; omega)
    by_cases g4 : y0 < 192
    · by_cases hs : n < 4
      · exact vread_short_four b o n c y0 r w l0 u0 (by omega) g4 hn hs hc hm x0
      match r, hn with
      | y1 :: y2 :: y3 :: r, hn =>
        have b1 := hb y1 (by simp)
        have x1 := hx 1 (by simp)
        have b2 := hb y2 (by simp)
        have x2 := hx 2 (by simp)
        have b3 := hb y3 (by simp)
        have x3 := hx 3 (by simp)
        exact vread_four b o n c y0 y1 y2 y3 r w l0 u0 b1.1 b1.2 b2.1 b2.2 b3.1 b3.2 (by omega) g4 (by simp at hn; omega) hc hm x0 x1 x2 x3
      | [], hn => exact absurd hn (by simp; omega)
      | [y1], hn => exact absurd hn (by simp; omega)
      | [y1, y2], hn => exact absurd hn (by simp; omega)
    by_cases hs : n < 8
    · exact vread_short_eight b o n c y0 r w l0 u0 (by omega) (by omega) hn hs hc hm x0
    match r, hn with
    | y1 :: y2 :: y3 :: y4 :: y5 :: y6 :: y7 :: r, hn =>
      have b1 := hb y1 (by simp)
      have x1 := hx 1 (by simp)
      have b2 := hb y2 (by simp)
      have x2 := hx 2 (by simp)
      have b3 := hb y3 (by simp)
      have x3 := hx 3 (by simp)
      have b4 := hb y4 (by simp)
      have x4 := hx 4 (by simp)
      have b5 := hb y5 (by simp)
      have x5 := hx 5 (by simp)
      have b6 := hb y6 (by simp)
      have x6 := hx 6 (by simp)
      have b7 := hb y7 (by simp)
      have x7 := hx 7 (by simp)
      exact vread_eight b o n c y0 y1 y2 y3 y4 y5 y6 y7 r w l0 u0 b1.1 b1.2 b2.1 b2.2 b3.1 b3.2 b4.1 b4.2 b5.1 b5.2 b6.1 b6.2 b7.1 b7.2 (by omega) (by omega) (by simp at hn; omega) hc hm x0 x1 x2 x3 x4 x5 x6 x7
    | [], hn => exact absurd hn (by simp; omega)
    | [y1], hn => exact absurd hn (by simp; omega)
    | [y1, y2], hn => exact absurd hn (by simp; omega)
    | [y1, y2, y3], hn => exact absurd hn (by simp; omega)
    | [y1, y2, y3, y4], hn => exact absurd hn (by simp; omega)
    | [y1, y2, y3, y4, y5], hn => exact absurd hn (by simp; omega)
    | [y1, y2, y3, y4, y5, y6], hn => exact absurd hn (by simp; omega)
theorem rread_any {B : Nat} (A : Option Addr) (n c : Nat) (xs : List Int) (w : World) (h : Rds B w .u8 A n c xs) (hb : Byt xs) : Calls Tryd.prog 36 #[.slice A n c] w (ReadPost xs w) := by
  obtain ⟨hl, hc, hm, hcell, -⟩ := h
  match xs, hl with
  | [], hl =>
    obtain rfl : n = 0 := by simpa using hl.symm
    exact rread_nil A c w
  | y0 :: r, hl =>
    obtain ⟨b, o, rfl, hx⟩ := hcell.at_ (by simp)
    have l0 := (hb y0 (by simp)).1
    have u0 := (hb y0 (by simp)).2
    have x0 := hx 0 (by simp)
    have hn : n = r.length + 1 := by simpa using hl.symm
    by_cases g1 : y0 < 64
    · exact rread_one b o n c y0 r w l0 u0 (by omega) g1 hn hc hm x0
    by_cases g2 : y0 < 128
    · by_cases hs : n < 2
      · exact rread_short_two b o n c y0 r w l0 u0 (by omega) g2 hn hs hc hm x0
      match r, hn with
      | y1 :: r, hn =>
        have b1 := hb y1 (by simp)
        have x1 := hx 1 (by simp)
        exact rread_two b o n c y0 y1 r w l0 u0 b1.1 b1.2 (by omega) g2 (by simp at hn; omega) hc hm x0 x1
      | [], hn => exact absurd hn (by simp; omega)
    by_cases g4 : y0 < 192
    · by_cases hs : n < 4
      · exact rread_short_four b o n c y0 r w l0 u0 (by omega) g4 hn hs hc hm x0
      match r, hn with
      | y1 :: y2 :: y3 :: r, hn =>
        have b1 := hb y1 (by simp)
        have x1 := hx 1 (by simp)
        have b2 := hb y2 (by simp)
        have x2 := hx 2 (by simp)
        have b3 := hb y3 (by simp)
        have x3 := hx 3 (by simp)
        exact rread_four b o n c y0 y1 y2 y3 r w l0 u0 b1.1 b1.2 b2.1 b2.2 b3.1 b3.2 (by omega) g4 (by simp at hn; omega) hc hm x0 x1 x2 x3
      | [], hn => exact absurd hn (by simp; omega)
      | [y1], hn => exact absurd hn (by simp; omega)
      | [y1, y2], hn => exact absurd hn (by simp; omega)
    by_cases hs : n < 8
    · exact rread_short_eight b o n c y0 r w l0 u0 (by omega) (by omega) hn hs hc hm x0
    match r, hn with
    | y1 :: y2 :: y3 :: y4 :: y5 :: y6 :: y7 :: r, hn =>
      have b1 := hb y1 (by simp)
      have x1 := hx 1 (by simp)
      have b2 := hb y2 (by simp)
      have x2 := hx 2 (by simp)
      have b3 := hb y3 (by simp)
      have x3 := hx 3 (by simp)
      have b4 := hb y4 (by simp)
      have x4 := hx 4 (by simp)
      have b5 := hb y5 (by simp)
      have x5 := hx 5 (by simp)
      have b6 := hb y6 (by simp)
      have x6 := hx 6 (by simp)
      have b7 := hb y7 (by simp)
      have x7 := hx 7 (by simp)
      exact rread_eight b o n c y0 y1 y2 y3 y4 y5 y6 y7 r w l0 u0 b1.1 b1.2 b2.1 b2.2 b3.1 b3.2 b4.1 b4.2 b5.1 b5.2 b6.1 b6.2 b7.1 b7.2 (by omega) (by omega) (by simp at hn; omega) hc hm x0 x1 x2 x3 x4 x5 x6 x7
    | [], hn => exact absurd hn (by simp; omega)
    | [y1], hn => exact absurd hn (by simp; omega)
    | [y1, y2], hn => exact absurd hn (by simp; omega)
    | [y1, y2, y3], hn => exact absurd hn (by simp; omega)
    | [y1, y2, y3, y4], hn => exact absurd hn (by simp; omega)
    | [y1, y2, y3, y4, y5], hn => exact absurd hn (by simp; omega)
    | [y1, y2, y3, y4, y5, y6], hn => exact absurd hn (by simp; omega)
end Go.Proofs.YtmaedahleenlgaaDoor

/- The reference's bytes of numbers. No condition. -/
set_option linter.unusedVariables false
set_option linter.unusedSimpArgs false
namespace Go.Proofs.YtmaedahleenlgaaDoor
open Go Go.RowKit

/-- A number is stored into a row of the call's own. -/
theorem OwnI.put {w : World} {B : Nat} {k : IntKind} {g n c : Nat} {xs : List Int} (h : OwnI w B k (.slice (some ⟨g, 0, none⟩) n c) xs) (i : Nat) (hi : i < n) (x : Int) : OwnI (w.setCell ⟨g, i, none⟩ (.int k x)) B k (.slice (some ⟨g, 0, none⟩) n c) (xs.set i x) := by
  rcases h with ⟨rfl, e⟩ | ⟨g', cap, cur, t, e, hb, hg, ht, h1, h2, h3, hc⟩
  · cases e
  · simp only [Value.slice.injEq, Option.some.injEq, Addr.mk.injEq, and_true] at e
    obtain ⟨rfl, rfl, rfl⟩ := e
    refine .inr ⟨g, c, cur.setIfInBounds i (.int k x), t, by simp, hb, heap_setCell_same w g i cur t _ hg, ht, by simpa using h1, by simpa using h2, h3, ?_⟩
    rw [List.length_set, Array.toList_setIfInBounds, List.take_set, hc, List.map_set]
theorem OwnI.at_ {w : World} {B : Nat} {k : IntKind} {g n c : Nat} {xs : List Int} (h : OwnI w B k (.slice (some ⟨g, 0, none⟩) n c) xs) (i : Nat) (hi : i < n) : w.cell? ⟨g, i, none⟩ = some (.int k (nth xs i)) ∧ w.frozen? ⟨g, i, none⟩ = false := by
  rcases h with ⟨rfl, e⟩ | ⟨g', cap, cur, t, e, hb, hg, ht, h1, h2, h3, hc⟩
  · cases e
  · simp only [Value.slice.injEq, Option.some.injEq, Addr.mk.injEq, and_true] at e
    obtain ⟨rfl, rfl, rfl⟩ := e
    refine ⟨?_, frozen_of_row w g i cur t hg⟩
    rw [cell_of_row w g i cur t (0, 0) hg]
    have e := congrArg (fun l => l[i]?) hc
    simp only [List.getElem?_take, if_pos hi, List.getElem?_map, nth_lt hi, Option.map_some] at e
    simpa using e
set_option maxHeartbeats 3200000 in
set_option maxRecDepth 100000 in
theorem rbytes1_any (N : Int) (w : World) (k : sizeV N = 1) (h0 : 0 ≤ N) (h1 : N < 64) : Calls Tryd.prog 31 #[.int .i64 N] w (BytesPost (varB N) w) := by
  have HE : Hid (varB N = _) := varB_one k
  have key := rsize_any N w
  rw [k] at key
  have m0 : Int.tmod (N) 256 = N % 256 := Int.tmod_eq_emod_of_nonneg (by omega)
  have d0 : Int.tdiv (N) 256 = N / 256 := by rw [Int.tdiv_eq_ediv_of_nonneg (by omega)]
  go_enter Tryd.func31, Tryd.ntmps31
  go_wp2_with fail
  refine key.mono ?_
  clear key
  rintro e w1 ⟨rfl, rfl⟩
  go_wp2_with fail
  refine wp_loop_rounds 2 ?_
  have HV0 : Hid (OwnI w w.heap.size .u8 (.slice none 0 0) []) := OwnI.nil _ _ _
  have HB0 : Hid (Below w.heap.size w w) := Below.refl _ _
  rw [rounds_succ]
  go_wp2_with (at_builtin; refine wp_app_u8 (xs := []) (ys := [_]) rfl _ _ rfl rfl rfl (HV0.out.below (below_new _)) (RdI.one_at _ .u8 _ _ rfl) rfl ?_ ?_ ?_)
  · have := HB0.out.size; simp; try omega
  · simp
  intro v1 u1 hv hg hb
  try simp only [List.nil_append, List.cons_append] at hv
  have HV1 := Lib.hid hv
  have HB1 := Lib.hid ((HB0.out.alloc HB0.out.size _).trans hb)
  clear hv hg hb HV0 HB0
  go_wp2_with fail
  rw [rounds_succ]
  go_wp2_with fail
  obtain ⟨g, cap, rfl, hgB, hgl, -⟩ := HV1.out.form (by simp)
  obtain ⟨c0, f0⟩ := HV1.out.at_ 0 (by simp)
  simp only [nth, List.getD_cons_zero, List.getD_cons_succ, List.length_cons, List.length_nil] at *
  refine wp_loop_rounds 2 ?_
  rw [rounds_succ]
  go_wp2_with fail
  rw [rounds_succ]
  go_wp2_with fail
  go_ret
  refine ⟨_, rfl, ?_, (Below.setCell HB1.out hgB _)⟩
  rw [HE.out]
  refine OwnI.of_eq ?_ (OwnI.put HV1.out 0 (by simp) _)
  simp only [List.set_cons_succ, List.set_cons_zero, List.cons.injEq, and_true]
  try omega

set_option maxHeartbeats 3200000 in
set_option maxRecDepth 100000 in
theorem rbytes2_any (N : Int) (w : World) (k : sizeV N = 2) (h0 : 64 ≤ N) (h1 : N < 16384) : Calls Tryd.prog 31 #[.int .i64 N] w (BytesPost (varB N) w) := by
  have HE : Hid (varB N = _) := varB_two k
  have key := rsize_any N w
  rw [k] at key
  have m0 : Int.tmod (N) 256 = N % 256 := Int.tmod_eq_emod_of_nonneg (by omega)
  have d0 : Int.tdiv (N) 256 = N / 256 := by rw [Int.tdiv_eq_ediv_of_nonneg (by omega)]
  have m1 : Int.tmod (N / 256) 256 = (N / 256) % 256 := Int.tmod_eq_emod_of_nonneg (by omega)
  have d1 : Int.tdiv (N / 256) 256 = N / 65536 := by rw [Int.tdiv_eq_ediv_of_nonneg (by omega)]; omega
  go_enter Tryd.func31, Tryd.ntmps31
  go_wp2_with fail
  refine key.mono ?_
  clear key
  rintro e w1 ⟨rfl, rfl⟩
  go_wp2_with fail
  refine wp_loop_rounds 3 ?_
  have HV0 : Hid (OwnI w w.heap.size .u8 (.slice none 0 0) []) := OwnI.nil _ _ _
  have HB0 : Hid (Below w.heap.size w w) := Below.refl _ _
  rw [rounds_succ]
  go_wp2_with (at_builtin; refine wp_app_u8 (xs := []) (ys := [_]) rfl _ _ rfl rfl rfl (HV0.out.below (below_new _)) (RdI.one_at _ .u8 _ _ rfl) rfl ?_ ?_ ?_)
  · have := HB0.out.size; simp; try omega
  · simp
  intro v1 u1 hv hg hb
  try simp only [List.nil_append, List.cons_append] at hv
  have HV1 := Lib.hid hv
  have HB1 := Lib.hid ((HB0.out.alloc HB0.out.size _).trans hb)
  clear hv hg hb HV0 HB0
  go_wp2_with fail
  rw [rounds_succ]
  go_wp2_with (at_builtin; refine wp_app_u8 (xs := [0]) (ys := [_]) rfl _ _ rfl rfl rfl (HV1.out.below (below_new _)) (RdI.one_at _ .u8 _ _ rfl) rfl ?_ ?_ ?_)
  · have := HB1.out.size; simp; try omega
  · simp
  intro v2 u2 hv hg hb
  try simp only [List.nil_append, List.cons_append] at hv
  have HV2 := Lib.hid hv
  have HB2 := Lib.hid ((HB1.out.alloc HB1.out.size _).trans hb)
  clear hv hg hb HV1 HB1
  go_wp2_with fail
  rw [rounds_succ]
  go_wp2_with fail
  obtain ⟨g, cap, rfl, hgB, hgl, -⟩ := HV2.out.form (by simp)
  obtain ⟨c0, f0⟩ := HV2.out.at_ 0 (by simp)
  obtain ⟨c1, f1⟩ := HV2.out.at_ 1 (by simp)
  simp only [nth, List.getD_cons_zero, List.getD_cons_succ, List.length_cons, List.length_nil] at *
  refine wp_loop_rounds 3 ?_
  rw [rounds_succ]
  go_wp2_with fail
  rw [rounds_succ]
  go_wp2_with fail
  rw [rounds_succ]
  go_wp2_with fail
  go_ret
  refine ⟨_, rfl, ?_, (Below.setCell (Below.setCell (Below.setCell HB2.out hgB _) hgB _) hgB _)⟩
  rw [HE.out]
  refine OwnI.of_eq ?_ (OwnI.put (OwnI.put (OwnI.put HV2.out 1 (by simp) _) 0 (by simp) _) 0 (by simp) _)
  simp only [List.set_cons_succ, List.set_cons_zero, List.cons.injEq, and_true]
  try omega

set_option maxHeartbeats 3200000 in
set_option maxRecDepth 100000 in
theorem rbytes4_any (N : Int) (w : World) (k : sizeV N = 4) (h0 : 16384 ≤ N) (h1 : N < 1073741824) : Calls Tryd.prog 31 #[.int .i64 N] w (BytesPost (varB N) w) := by
  have HE : Hid (varB N = _) := varB_four k
  have key := rsize_any N w
  rw [k] at key
  have m0 : Int.tmod (N) 256 = N % 256 := Int.tmod_eq_emod_of_nonneg (by omega)
  have d0 : Int.tdiv (N) 256 = N / 256 := by rw [Int.tdiv_eq_ediv_of_nonneg (by omega)]
  have m1 : Int.tmod (N / 256) 256 = (N / 256) % 256 := Int.tmod_eq_emod_of_nonneg (by omega)
  have d1 : Int.tdiv (N / 256) 256 = N / 65536 := by rw [Int.tdiv_eq_ediv_of_nonneg (by omega)]; omega
  have m2 : Int.tmod (N / 65536) 256 = (N / 65536) % 256 := Int.tmod_eq_emod_of_nonneg (by omega)
  have d2 : Int.tdiv (N / 65536) 256 = N / 16777216 := by rw [Int.tdiv_eq_ediv_of_nonneg (by omega)]; omega
  have m3 : Int.tmod (N / 16777216) 256 = (N / 16777216) % 256 := Int.tmod_eq_emod_of_nonneg (by omega)
  have d3 : Int.tdiv (N / 16777216) 256 = N / 4294967296 := by rw [Int.tdiv_eq_ediv_of_nonneg (by omega)]; omega
  go_enter Tryd.func31, Tryd.ntmps31
  go_wp2_with fail
  refine key.mono ?_
  clear key
  rintro e w1 ⟨rfl, rfl⟩
  go_wp2_with fail
  refine wp_loop_rounds 5 ?_
  have HV0 : Hid (OwnI w w.heap.size .u8 (.slice none 0 0) []) := OwnI.nil _ _ _
  have HB0 : Hid (Below w.heap.size w w) := Below.refl _ _
  rw [rounds_succ]
  go_wp2_with (at_builtin; refine wp_app_u8 (xs := []) (ys := [_]) rfl _ _ rfl rfl rfl (HV0.out.below (below_new _)) (RdI.one_at _ .u8 _ _ rfl) rfl ?_ ?_ ?_)
  · have := HB0.out.size; simp; try omega
  · simp
  intro v1 u1 hv hg hb
  try simp only [List.nil_append, List.cons_append] at hv
  have HV1 := Lib.hid hv
  have HB1 := Lib.hid ((HB0.out.alloc HB0.out.size _).trans hb)
  clear hv hg hb HV0 HB0
  go_wp2_with fail
  rw [rounds_succ]
  go_wp2_with (at_builtin; refine wp_app_u8 (xs := [0]) (ys := [_]) rfl _ _ rfl rfl rfl (HV1.out.below (below_new _)) (RdI.one_at _ .u8 _ _ rfl) rfl ?_ ?_ ?_)
  · have := HB1.out.size; simp; try omega
  · simp
  intro v2 u2 hv hg hb
  try simp only [List.nil_append, List.cons_append] at hv
  have HV2 := Lib.hid hv
  have HB2 := Lib.hid ((HB1.out.alloc HB1.out.size _).trans hb)
  clear hv hg hb HV1 HB1
  go_wp2_with fail
  rw [rounds_succ]
  go_wp2_with (at_builtin; refine wp_app_u8 (xs := [0, 0]) (ys := [_]) rfl _ _ rfl rfl rfl (HV2.out.below (below_new _)) (RdI.one_at _ .u8 _ _ rfl) rfl ?_ ?_ ?_)
  · have := HB2.out.size; simp; try omega
  · simp
  intro v3 u3 hv hg hb
  try simp only [List.nil_append, List.cons_append] at hv
  have HV3 := Lib.hid hv
  have HB3 := Lib.hid ((HB2.out.alloc HB2.out.size _).trans hb)
  clear hv hg hb HV2 HB2
  go_wp2_with fail
  rw [rounds_succ]
  go_wp2_with (at_builtin; refine wp_app_u8 (xs := [0, 0, 0]) (ys := [_]) rfl _ _ rfl rfl rfl (HV3.out.below (below_new _)) (RdI.one_at _ .u8 _ _ rfl) rfl ?_ ?_ ?_)
  · have := HB3.out.size; simp; try omega
  · simp
  intro v4 u4 hv hg hb
  try simp only [List.nil_append, List.cons_append] at hv
  have HV4 := Lib.hid hv
  have HB4 := Lib.hid ((HB3.out.alloc HB3.out.size _).trans hb)
  clear hv hg hb HV3 HB3
  go_wp2_with fail
  rw [rounds_succ]
  go_wp2_with fail
  obtain ⟨g, cap, rfl, hgB, hgl, -⟩ := HV4.out.form (by simp)
  obtain ⟨c0, f0⟩ := HV4.out.at_ 0 (by simp)
  obtain ⟨c1, f1⟩ := HV4.out.at_ 1 (by simp)
  obtain ⟨c2, f2⟩ := HV4.out.at_ 2 (by simp)
  obtain ⟨c3, f3⟩ := HV4.out.at_ 3 (by simp)
  simp only [nth, List.getD_cons_zero, List.getD_cons_succ, List.length_cons, List.length_nil] at *
  refine wp_loop_rounds 5 ?_
  rw [rounds_succ]
  go_wp2_with fail
  rw [rounds_succ]
  go_wp2_with fail
  rw [rounds_succ]
  go_wp2_with fail
  rw [rounds_succ]
  go_wp2_with fail
  rw [rounds_succ]
  go_wp2_with fail
  go_ret
  refine ⟨_, rfl, ?_, (Below.setCell (Below.setCell (Below.setCell (Below.setCell (Below.setCell HB4.out hgB _) hgB _) hgB _) hgB _) hgB _)⟩
  rw [HE.out]
  refine OwnI.of_eq ?_ (OwnI.put (OwnI.put (OwnI.put (OwnI.put (OwnI.put HV4.out 3 (by simp) _) 2 (by simp) _) 1 (by simp) _) 0 (by simp) _) 0 (by simp) _)
  simp only [List.set_cons_succ, List.set_cons_zero, List.cons.injEq, and_true]
  try omega

set_option maxHeartbeats 3200000 in
set_option maxRecDepth 100000 in
theorem rbytes8_any (N : Int) (w : World) (k : sizeV N = 8) (h0 : 1073741824 ≤ N) (h1 : N ≤ 4611686018427387903) : Calls Tryd.prog 31 #[.int .i64 N] w (BytesPost (varB N) w) := by
  have HE : Hid (varB N = _) := varB_eight k
  have key := rsize_any N w
  rw [k] at key
  have m0 : Int.tmod (N) 256 = N % 256 := Int.tmod_eq_emod_of_nonneg (by omega)
  have d0 : Int.tdiv (N) 256 = N / 256 := by rw [Int.tdiv_eq_ediv_of_nonneg (by omega)]
  have m1 : Int.tmod (N / 256) 256 = (N / 256) % 256 := Int.tmod_eq_emod_of_nonneg (by omega)
  have d1 : Int.tdiv (N / 256) 256 = N / 65536 := by rw [Int.tdiv_eq_ediv_of_nonneg (by omega)]; omega
  have m2 : Int.tmod (N / 65536) 256 = (N / 65536) % 256 := Int.tmod_eq_emod_of_nonneg (by omega)
  have d2 : Int.tdiv (N / 65536) 256 = N / 16777216 := by rw [Int.tdiv_eq_ediv_of_nonneg (by omega)]; omega
  have m3 : Int.tmod (N / 16777216) 256 = (N / 16777216) % 256 := Int.tmod_eq_emod_of_nonneg (by omega)
  have d3 : Int.tdiv (N / 16777216) 256 = N / 4294967296 := by rw [Int.tdiv_eq_ediv_of_nonneg (by omega)]; omega
  have m4 : Int.tmod (N / 4294967296) 256 = (N / 4294967296) % 256 := Int.tmod_eq_emod_of_nonneg (by omega)
  have d4 : Int.tdiv (N / 4294967296) 256 = N / 1099511627776 := by rw [Int.tdiv_eq_ediv_of_nonneg (by omega)]; omega
  have m5 : Int.tmod (N / 1099511627776) 256 = (N / 1099511627776) % 256 := Int.tmod_eq_emod_of_nonneg (by omega)
  have d5 : Int.tdiv (N / 1099511627776) 256 = N / 281474976710656 := by rw [Int.tdiv_eq_ediv_of_nonneg (by omega)]; omega
  have m6 : Int.tmod (N / 281474976710656) 256 = (N / 281474976710656) % 256 := Int.tmod_eq_emod_of_nonneg (by omega)
  have d6 : Int.tdiv (N / 281474976710656) 256 = N / 72057594037927936 := by rw [Int.tdiv_eq_ediv_of_nonneg (by omega)]; omega
  have m7 : Int.tmod (N / 72057594037927936) 256 = (N / 72057594037927936) % 256 := Int.tmod_eq_emod_of_nonneg (by omega)
  have d7 : Int.tdiv (N / 72057594037927936) 256 = N / 18446744073709551616 := by rw [Int.tdiv_eq_ediv_of_nonneg (by omega)]; omega
  go_enter Tryd.func31, Tryd.ntmps31
  go_wp2_with fail
  refine key.mono ?_
  clear key
  rintro e w1 ⟨rfl, rfl⟩
  go_wp2_with fail
  refine wp_loop_rounds 9 ?_
  have HV0 : Hid (OwnI w w.heap.size .u8 (.slice none 0 0) []) := OwnI.nil _ _ _
  have HB0 : Hid (Below w.heap.size w w) := Below.refl _ _
  rw [rounds_succ]
  go_wp2_with (at_builtin; refine wp_app_u8 (xs := []) (ys := [_]) rfl _ _ rfl rfl rfl (HV0.out.below (below_new _)) (RdI.one_at _ .u8 _ _ rfl) rfl ?_ ?_ ?_)
  · have := HB0.out.size; simp; try omega
  · simp
  intro v1 u1 hv hg hb
  try simp only [List.nil_append, List.cons_append] at hv
  have HV1 := Lib.hid hv
  have HB1 := Lib.hid ((HB0.out.alloc HB0.out.size _).trans hb)
  clear hv hg hb HV0 HB0
  go_wp2_with fail
  rw [rounds_succ]
  go_wp2_with (at_builtin; refine wp_app_u8 (xs := [0]) (ys := [_]) rfl _ _ rfl rfl rfl (HV1.out.below (below_new _)) (RdI.one_at _ .u8 _ _ rfl) rfl ?_ ?_ ?_)
  · have := HB1.out.size; simp; try omega
  · simp
  intro v2 u2 hv hg hb
  try simp only [List.nil_append, List.cons_append] at hv
  have HV2 := Lib.hid hv
  have HB2 := Lib.hid ((HB1.out.alloc HB1.out.size _).trans hb)
  clear hv hg hb HV1 HB1
  go_wp2_with fail
  rw [rounds_succ]
  go_wp2_with (at_builtin; refine wp_app_u8 (xs := [0, 0]) (ys := [_]) rfl _ _ rfl rfl rfl (HV2.out.below (below_new _)) (RdI.one_at _ .u8 _ _ rfl) rfl ?_ ?_ ?_)
  · have := HB2.out.size; simp; try omega
  · simp
  intro v3 u3 hv hg hb
  try simp only [List.nil_append, List.cons_append] at hv
  have HV3 := Lib.hid hv
  have HB3 := Lib.hid ((HB2.out.alloc HB2.out.size _).trans hb)
  clear hv hg hb HV2 HB2
  go_wp2_with fail
  rw [rounds_succ]
  go_wp2_with (at_builtin; refine wp_app_u8 (xs := [0, 0, 0]) (ys := [_]) rfl _ _ rfl rfl rfl (HV3.out.below (below_new _)) (RdI.one_at _ .u8 _ _ rfl) rfl ?_ ?_ ?_)
  · have := HB3.out.size; simp; try omega
  · simp
  intro v4 u4 hv hg hb
  try simp only [List.nil_append, List.cons_append] at hv
  have HV4 := Lib.hid hv
  have HB4 := Lib.hid ((HB3.out.alloc HB3.out.size _).trans hb)
  clear hv hg hb HV3 HB3
  go_wp2_with fail
  rw [rounds_succ]
  go_wp2_with (at_builtin; refine wp_app_u8 (xs := [0, 0, 0, 0]) (ys := [_]) rfl _ _ rfl rfl rfl (HV4.out.below (below_new _)) (RdI.one_at _ .u8 _ _ rfl) rfl ?_ ?_ ?_)
  · have := HB4.out.size; simp; try omega
  · simp
  intro v5 u5 hv hg hb
  try simp only [List.nil_append, List.cons_append] at hv
  have HV5 := Lib.hid hv
  have HB5 := Lib.hid ((HB4.out.alloc HB4.out.size _).trans hb)
  clear hv hg hb HV4 HB4
  go_wp2_with fail
  rw [rounds_succ]
  go_wp2_with (at_builtin; refine wp_app_u8 (xs := [0, 0, 0, 0, 0]) (ys := [_]) rfl _ _ rfl rfl rfl (HV5.out.below (below_new _)) (RdI.one_at _ .u8 _ _ rfl) rfl ?_ ?_ ?_)
  · have := HB5.out.size; simp; try omega
  · simp
  intro v6 u6 hv hg hb
  try simp only [List.nil_append, List.cons_append] at hv
  have HV6 := Lib.hid hv
  have HB6 := Lib.hid ((HB5.out.alloc HB5.out.size _).trans hb)
  clear hv hg hb HV5 HB5
  go_wp2_with fail
  rw [rounds_succ]
  go_wp2_with (at_builtin; refine wp_app_u8 (xs := [0, 0, 0, 0, 0, 0]) (ys := [_]) rfl _ _ rfl rfl rfl (HV6.out.below (below_new _)) (RdI.one_at _ .u8 _ _ rfl) rfl ?_ ?_ ?_)
  · have := HB6.out.size; simp; try omega
  · simp
  intro v7 u7 hv hg hb
  try simp only [List.nil_append, List.cons_append] at hv
  have HV7 := Lib.hid hv
  have HB7 := Lib.hid ((HB6.out.alloc HB6.out.size _).trans hb)
  clear hv hg hb HV6 HB6
  go_wp2_with fail
  rw [rounds_succ]
  go_wp2_with (at_builtin; refine wp_app_u8 (xs := [0, 0, 0, 0, 0, 0, 0]) (ys := [_]) rfl _ _ rfl rfl rfl (HV7.out.below (below_new _)) (RdI.one_at _ .u8 _ _ rfl) rfl ?_ ?_ ?_)
  · have := HB7.out.size; simp; try omega
  · simp
  intro v8 u8 hv hg hb
  try simp only [List.nil_append, List.cons_append] at hv
  have HV8 := Lib.hid hv
  have HB8 := Lib.hid ((HB7.out.alloc HB7.out.size _).trans hb)
  clear hv hg hb HV7 HB7
  go_wp2_with fail
  rw [rounds_succ]
  go_wp2_with fail
  obtain ⟨g, cap, rfl, hgB, hgl, -⟩ := HV8.out.form (by simp)
  obtain ⟨c0, f0⟩ := HV8.out.at_ 0 (by simp)
  obtain ⟨c1, f1⟩ := HV8.out.at_ 1 (by simp)
  obtain ⟨c2, f2⟩ := HV8.out.at_ 2 (by simp)
  obtain ⟨c3, f3⟩ := HV8.out.at_ 3 (by simp)
  obtain ⟨c4, f4⟩ := HV8.out.at_ 4 (by simp)
  obtain ⟨c5, f5⟩ := HV8.out.at_ 5 (by simp)
  obtain ⟨c6, f6⟩ := HV8.out.at_ 6 (by simp)
  obtain ⟨c7, f7⟩ := HV8.out.at_ 7 (by simp)
  simp only [nth, List.getD_cons_zero, List.getD_cons_succ, List.length_cons, List.length_nil] at *
  refine wp_loop_rounds 9 ?_
  rw [rounds_succ]
  go_wp2_with fail
  rw [rounds_succ]
  go_wp2_with fail
  rw [rounds_succ]
  go_wp2_with fail
  rw [rounds_succ]
  go_wp2_with fail
  rw [rounds_succ]
  go_wp2_with fail
  rw [rounds_succ]
  go_wp2_with fail
  rw [rounds_succ]
  go_wp2_with fail
  rw [rounds_succ]
  go_wp2_with fail
  rw [rounds_succ]
  go_wp2_with fail
  go_ret
  refine ⟨_, rfl, ?_, (Below.setCell (Below.setCell (Below.setCell (Below.setCell (Below.setCell (Below.setCell (Below.setCell (Below.setCell (Below.setCell HB8.out hgB _) hgB _) hgB _) hgB _) hgB _) hgB _) hgB _) hgB _) hgB _)⟩
  rw [HE.out]
  refine OwnI.of_eq ?_ (OwnI.put (OwnI.put (OwnI.put (OwnI.put (OwnI.put (OwnI.put (OwnI.put (OwnI.put (OwnI.put HV8.out 7 (by simp) _) 6 (by simp) _) 5 (by simp) _) 4 (by simp) _) 3 (by simp) _) 2 (by simp) _) 1 (by simp) _) 0 (by simp) _) 0 (by simp) _)
  simp only [List.set_cons_succ, List.set_cons_zero, List.cons.injEq, and_true]
  try omega
set_option maxHeartbeats 800000 in
theorem rbytes0_any (N : Int) (w : World) (k : sizeV N = 0) : Calls Tryd.prog 31 #[.int .i64 N] w (BytesPost (varB N) w) := by
  have HE : Hid (varB N = []) := varB_none k
  have key := rsize_any N w
  rw [k] at key
  go_enter Tryd.func31, Tryd.ntmps31
  go_wp2_with fail
  refine key.mono ?_
  clear key
  rintro e w1 ⟨rfl, rfl⟩
  go_wp2_with fail
  refine wp_loop_rounds 1 ?_
  rw [rounds_succ]
  go_wp2_with fail
  refine wp_loop_rounds 1 ?_
  rw [rounds_succ]
  go_wp2_with fail
  go_ret
  rw [HE.out]
  exact BytesPost.nil (Below.refl _ _)
theorem rbytes_any (N : Int) (w : World) : Calls Tryd.prog 31 #[.int .i64 N] w (BytesPost (varB N) w) := by
  rcases sizeV_cases N with ⟨k, h1⟩ | ⟨k, h1, h2⟩ | ⟨k, h1, h2⟩ | ⟨k, h1, h2⟩ | ⟨k, h1, h2⟩
  · exact rbytes0_any N w k
  · exact rbytes1_any N w k h1 h2
  · exact rbytes2_any N w k h1 h2
  · exact rbytes4_any N w k h1 h2
  · exact rbytes8_any N w k h1 h2
end Go.Proofs.YtmaedahleenlgaaDoor
