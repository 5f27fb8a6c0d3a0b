/- Three numbers of layer 17: the program's. No condition. -/
import Derived.Test.YtbcicfgffjgpdaaDoorTicket
set_option linter.unusedVariables false
set_option linter.unusedSimpArgs false
namespace Go.Proofs.YtbcicfgffjgpdaaDoor
open Go Go.RowKit

def NumsPost (xs : List Int) (w : World) (e : Ending) (w' : World) : Prop :=
  ∃ a b c ok, e = .returned (.tuple #[.agg #[.int .i64 a, .int .i64 b, .int .i64 c], .bool ok]) ∧ (ok = true → readT xs = some (a, b, c)) ∧ (ok = false → readT xs = none) ∧ Below w.heap.size w w'
theorem NumsPost.no {xs : List Int} {w w' : World} {a b c : Int} (h : readT xs = none) (hb : Below w.heap.size w w') : NumsPost xs w (.returned (.tuple #[.agg #[.int .i64 a, .int .i64 b, .int .i64 c], .bool false])) w' :=
  ⟨a, b, c, false, rfl, by simp, fun _ => h, hb⟩
theorem NumsPost.yes {xs : List Int} {w w' : World} {a b c : Int} (h : readT xs = some (a, b, c)) (hb : Below w.heap.size w w') : NumsPost xs w (.returned (.tuple #[.agg #[.int .i64 a, .int .i64 b, .int .i64 c], .bool true])) w' :=
  ⟨a, b, c, true, rfl, fun _ => h, by simp, hb⟩

set_option maxHeartbeats 3200000 in
set_option maxRecDepth 100000 in
theorem nums_any {B : Nat} (A : Option Addr) (n c : Nat) (xs : List Int) (w : World) (h : Rds B w .u8 A n c xs) (hb : Byt xs) (hn : n ≤ 1000000) :
    Calls Tryd.prog 34 #[.slice A n c] w (NumsPost xs w) := by
  have H0 := Lib.hid h
  have HR := Lib.hid (h.below (below_new (.cells #[.int .i64 0, .int .i64 0, .int .i64 0] 69)))
  have HL := Lib.hid h.len
  have HY := Lib.hid hb
  have key := vread_any A n c xs _ HR.out hb
  clear h hb
  go_enter Tryd.func34, Tryd.ntmps34
  go_wp2_with fail
  refine wp_loop_rounds 4 ?_
  rw [rounds_succ]
  go_wp2_with fail
  refine key.mono ?_
  clear key
  rintro e w1 ⟨rfl, rfl⟩
  obtain ⟨a, s1, e1, hr1⟩ : ∃ a s e, readV xs = (a, s, e) := ⟨_, _, _, rfl⟩
  have R1 : Hid (rd1 xs = (a, s1, e1)) := hr1
  have hs1 := readV_size (xs := xs)
  rw [hr1] at hs1 ⊢
  simp only at hs1 ⊢
  have hs1n : s1 ≤ n := by have := HL.out; omega
  clear hr1 hs1
  by_cases he1 : e1 = 0
  rotate_left
  · have HN : Hid (readT xs = none) := readT_no fun k => by rw [R1.out] at k; exact he1 k.1
    have hb1 : (e1 != 0) = true := by simp [he1]
    clear he1
    go_wp2_with fail
    go_returns
    exact NumsPost.no HN.out (below_new _)
  subst he1
  go_wp2_with fail
  obtain ⟨A', hA'⟩ : ∃ A', A' = cutA A s1 c := ⟨_, rfl⟩
  have HR2 : Hid (Rds B (w.alloc (.cells #[.int .i64 0, .int .i64 0, .int .i64 0] 69)) .u8 A' (n - s1) (c - s1) (xs.drop s1)) := by rw [hA']; exact HR.out.cut hs1n
  have hif : (if c = s1 then A else Option.map (fun x => x.add s1) A) = A' := by rw [hA']; unfold cutA; simp
  have hif2 : (if c = s1 then A else Option.map (fun x => x.add (s1 * 1)) A) = A' := by rw [hA']; unfold cutA; simp
  have HA' := Lib.hid hA'
  clear hA'
  go_region
  clear hif hif2
  have HB1 : Hid (Below w.heap.size w ((w.alloc (.cells #[.int .i64 a, .int .i64 0, .int .i64 0] 69)).drew)) := (below_new _).drew
  have HS1 : Hid (Rds B ((w.alloc (.cells #[.int .i64 a, .int .i64 0, .int .i64 0] 69)).drew) .u8 A' (n - s1) (c - s1) (xs.drop s1)) := by rw [HA'.out]; exact ((H0.out.below HB1.out).cut hs1n)
  have key := vread_any _ _ _ _ _ HS1.out (fun x hx => HY.out x (List.mem_of_mem_drop hx))
  clear HR HR2
  go_wp2_with fail
  rw [rounds_succ]
  go_wp2_with fail
  refine key.mono ?_
  clear key
  rintro e w2 ⟨rfl, rfl⟩
  obtain ⟨b, s2, e2, hr2⟩ : ∃ a s e, readV (xs.drop s1) = (a, s, e) := ⟨_, _, _, rfl⟩
  have R2 : Hid (rd2 xs = (b, s2, e2)) := by show rd2 xs = _; unfold rd2; rw [R1.out]; exact hr2
  have hs2 := readV_size (xs := xs.drop s1)
  rw [hr2] at hs2 ⊢
  simp only [List.length_drop] at hs2 ⊢
  have hs2n : s2 ≤ n - s1 := by have := HL.out; omega
  clear hr2 hs2
  by_cases he2 : e2 = 0
  rotate_left
  · have HN : Hid (readT xs = none) := readT_no fun k => by rw [R2.out] at k; exact he2 k.2.1
    have hb1 : (e2 != 0) = true := by simp [he2]
    clear he2
    go_wp2_with fail
    go_returns
    exact NumsPost.no HN.out ((below_new _).drew)
  subst he2
  go_wp2_with fail
  obtain ⟨A2, hA2⟩ : ∃ A2, A2 = cutA A' s2 (c - s1) := ⟨_, rfl⟩
  have hif : (if c - s1 = s2 then A' else Option.map (fun x => x.add s2) A') = A2 := by rw [hA2]; unfold cutA; simp
  have HA2 := Lib.hid hA2
  clear hA2
  have hc2 : n - s1 ≤ c - s1 := HS1.out.cap
  have hs2z : (0 : Int) ≤ s2 := by omega
  have hs2i : (s2 : Int) ≤ ((n - s1 : Nat) : Int) := by omega
  go_region
  clear hif hc2 hs2z hs2i HS1 HB1
  have HB2 : Hid (Below w.heap.size w ((w.alloc (.cells #[.int .i64 a, .int .i64 b, .int .i64 0] 69)).drew.drew)) := (below_new _).drew.drew
  have HS2 : Hid (Rds B ((w.alloc (.cells #[.int .i64 a, .int .i64 b, .int .i64 0] 69)).drew.drew) .u8 A2 (n - s1 - s2) (c - s1 - s2) ((xs.drop s1).drop s2)) := by rw [HA2.out, HA'.out]; exact (((H0.out.below HB2.out).cut hs1n).cut hs2n)
  have key := vread_any _ _ _ _ _ HS2.out (fun x hx => HY.out x (List.mem_of_mem_drop (List.mem_of_mem_drop hx)))
  go_wp2_with fail
  rw [rounds_succ]
  go_wp2_with fail
  refine key.mono ?_
  clear key
  rintro e w3 ⟨rfl, rfl⟩
  obtain ⟨d, s3, e3, hr3⟩ : ∃ a s e, readV ((xs.drop s1).drop s2) = (a, s, e) := ⟨_, _, _, rfl⟩
  have R3 : Hid (rd3 xs = (d, s3, e3)) := by show rd3 xs = _; unfold rd3; rw [R1.out, R2.out]; rw [List.drop_drop] at hr3; exact hr3
  have hs3 := readV_size (xs := (xs.drop s1).drop s2)
  rw [hr3] at hs3 ⊢
  simp only [List.length_drop] at hs3 ⊢
  have hs3n : s3 ≤ n - s1 - s2 := by have := HL.out; omega
  clear hr3 hs3
  by_cases he3 : e3 = 0
  rotate_left
  · have HN : Hid (readT xs = none) := readT_no fun k => by rw [R3.out] at k; exact he3 k.2.2.1
    have hb1 : (e3 != 0) = true := by simp [he3]
    clear he3
    go_wp2_with fail
    go_returns
    exact NumsPost.no HN.out ((below_new _).drew.drew)
  subst he3
  go_wp2_with fail
  obtain ⟨A3, hA3⟩ : ∃ A3, A3 = cutA A2 s3 (c - s1 - s2) := ⟨_, rfl⟩
  have hif : (if c - s1 - s2 = s3 then A2 else Option.map (fun x => x.add s3) A2) = A3 := by rw [hA3]; unfold cutA; simp
  clear hA3
  have hc3 : n - s1 - s2 ≤ c - s1 - s2 := HS2.out.cap
  have hs3z : (0 : Int) ≤ s3 := by omega
  have hs3i : (s3 : Int) ≤ ((n - s1 - s2 : Nat) : Int) := by omega
  go_region
  clear hif hc3 hs3z hs3i HS2
  by_cases hs : s1 + s2 + s3 = n
  rotate_left
  · have HN : Hid (readT xs = none) := readT_no fun k => by rw [R1.out, R2.out, R3.out] at k; have := HL.out; exact hs (k.2.2.2.trans this)
    have hb1 : (((n - s1 - s2 - s3 : Nat) : Int) == 0) = false := by rw [beq_eq_false_iff_ne]; omega
    clear hs
    go_wp2_with fail
    rw [rounds_succ]
    go_wp2_with fail
    go_returns
    exact NumsPost.no HN.out ((below_new _).drew.drew.drew)
  · have HN : Hid (readT xs = some (a, b, d)) := by
      show _ = _
      rw [readT_yes (by rw [R1.out, R2.out, R3.out]; exact ⟨rfl, rfl, rfl, hs.trans HL.out.symm⟩), R1.out, R2.out, R3.out]
    have hb1 : (((n - s1 - s2 - s3 : Nat) : Int) == 0) = true := by rw [beq_iff_eq]; omega
    clear hs
    go_wp2_with fail
    rw [rounds_succ]
    go_wp2_with fail
    go_returns
    exact NumsPost.yes HN.out ((below_new _).drew.drew.drew)
end Go.Proofs.YtbcicfgffjgpdaaDoor
