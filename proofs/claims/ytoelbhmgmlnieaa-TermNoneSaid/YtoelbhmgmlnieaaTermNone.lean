/- The walk of TermNone. No condition. -/
import Derived.Test.YtoelbhmgmlnieaaAwake2
import Derived.Test.YtoelbhmgmlnieaaPureIdeal
set_option linter.unusedVariables false
set_option linter.unusedSimpArgs false
namespace Go.Proofs.Ytoelbhmgmlnieaa
open Go Go.RowKit Go.WideMaps

def ZeroTab (w : World) (e : Ending) (w' : World) : Prop := e = .returned (.int .i64 0) ∧ w' = w
set_option maxRecDepth 100000 in
theorem text_nil (A : Option Addr) (n c : Nat) (w : World) : Calls Try.prog 48 #[.pointer none, .slice A n c] w (ZeroTab w) := by
  go_enter Try.func48, Try.ntmps48
  go_wp2_with fail
  go_ret
  exact ⟨rfl, rfl⟩
set_option maxRecDepth 100000 in
theorem secret_nil (w : World) : Calls Try.prog 40 #[.pointer none] w (ZeroTab w) := by
  go_enter Try.func40, Try.ntmps40
  go_wp2_with fail
  go_ret
  exact ⟨rfl, rfl⟩
set_option maxRecDepth 100000 in
theorem size_nil (w : World) : Calls Try.prog 44 #[.pointer none] w (ZeroTab w) := by
  go_enter Try.func44, Try.ntmps44
  go_wp2_with fail
  go_ret
  exact ⟨rfl, rfl⟩
set_option maxRecDepth 100000 in
theorem kinds_nil (w : World) : Calls Try.prog 68 #[.pointer none, .slice none 0 0] w fun e w' => e = .returned (.slice none 0 0) ∧ w' = w := by
  go_enter Try.func68, Try.ntmps68
  go_wp2_with fail
  refine wp_loop_rounds 1 ?_
  rw [rounds_succ]
  go_wp2_with fail
  go_ret
  exact ⟨rfl, rfl⟩
set_option maxRecDepth 100000 in
theorem make_nil (w : World) : Calls Try.prog 41 #[.pointer none, .int .i64 3, .slice none 0 0] w (ZeroTab w) := by
  go_enter Try.func41, Try.ntmps41
  go_wp2_with fail
  refine (kinds_nil w).mono ?_
  rintro e w1 ⟨rfl, rfl⟩
  go_wp2_with fail
  go_ret
  exact ⟨rfl, rfl⟩
set_option maxRecDepth 100000 in
theorem look_nil (h : Int) (w : World) : Calls Try.prog 45 #[.pointer none, .int .i64 h] w fun e w' => e = .returned (.tuple #[.agg #[.int .i64 0, .string ByteArray.empty, .slice none 0 0], .bool false]) ∧ Below w.heap.size w w' := by
  go_enter Try.func45, Try.ntmps45
  go_wp2_with fail
  go_returns
  exact ⟨rfl, below_new _⟩

def nR : Nd := ⟨3, ByteArray.empty, [1, 1]⟩
theorem nn1 : makeT [nS] 3 [1, 1] = ([nS, nR], 2) := by decide
theorem nn2 : nodeT [nS, nR] 2 = nR := by decide
theorem nn3 : (getT [nS, nR] 2).isSome = true := by decide
theorem look_two {B tb : Nat} (w : World) (ht : IsTab B w tb [nS, nR]) : Calls Try.prog 45 #[.pointer (some ⟨tb, 0, none⟩), .int .i64 2] w fun e w' =>
    ∃ g c, e = .returned (.tuple #[.agg #[.int .i64 3, .string ByteArray.empty, .slice (some ⟨g, 0, none⟩) 2 c], .bool true]) ∧ w.heap.size ≤ g ∧ g < w'.heap.size ∧ w'.cell? ⟨g, 0, none⟩ = some (.int .i64 1) ∧ w'.frozen? ⟨g, 0, none⟩ = false ∧ Below w.heap.size w w' := by
  refine (look_any 2 w ht (by omega) (by omega)).mono ?_
  rintro e w' ⟨A, c, rfl, ho, hb⟩
  rw [nn2, nn3] at *
  obtain ⟨g, cap, e1, h1, h2, h3, h4, h5, h6⟩ := ho.form (by decide)
  simp only [nR, List.length_cons, List.length_nil, Value.slice.injEq] at e1 h4
  obtain ⟨rfl, -, rfl⟩ := e1
  exact ⟨g, c, rfl, h1, h2, h4 0 (by omega), h5 0, hb⟩

set_option maxHeartbeats 1600000 in
set_option maxRecDepth 100000 in
theorem termNone_walk (w : World) (A : Option Addr) (n c : Nat) (h : Int) : Calls Try.prog 11 #[.slice A n c, .int .i64 h] w (AwakePost w) := by
  go_enter Try.func11, Try.ntmps11
  go_wp2_with fail
  refine (look_nil h w).mono ?_
  rintro e w1 ⟨rfl, hb1⟩
  have HB1 := Lib.hid hb1
  clear hb1
  go_wp2_with fail
  refine (text_nil A n c _).mono ?_
  rintro e w2 ⟨rfl, rfl⟩
  go_wp2_with fail
  refine (secret_nil _).mono ?_
  rintro e w2 ⟨rfl, rfl⟩
  go_wp2_with fail
  refine (make_nil _).mono ?_
  rintro e w2 ⟨rfl, rfl⟩
  go_wp2_with fail
  refine (size_nil _).mono ?_
  rintro e w2 ⟨rfl, rfl⟩
  go_wp2_with fail
  refine (new_any _).mono ?_
  rintro e w3 ⟨tb, rfl, ht3, hb3⟩
  have hs1 := HB1.out.size
  have HB3 : Hid (Below w.heap.size w w3) := below_next (HB1.out.alloc hs1 _) (by simp; omega) hb3
  obtain ⟨B0, hB0⟩ : ∃ B0, B0 = (w1.alloc (Obj.cells #[Value.int IntKind.i64 0, Value.string ByteArray.empty, Value.slice none 0 0] 84)).heap.size := ⟨_, rfl⟩
  have hB : w.heap.size ≤ B0 := by rw [hB0]; simp; omega
  rw [← hB0] at ht3
  have HT3 := Lib.hid ht3
  have HF3 := Lib.hid (Frm.of_below (C := tabO) (B := w.heap.size) HB3.out)
  clear ht3 hb3 HB1 HB3 hs1 hB0
  go_wp2_with fail
  refine (secret_any w3 HT3.out).mono ?_
  rintro e w4 p4
  obtain ⟨rfl, ht4, hf4⟩ := p4.intro aw1
  have HT4 := Lib.hid ht4
  have HF4 := Lib.hid (HF3.out.trans (hf4.weak hB))
  clear p4 ht4 hf4 HF3 HT3
  go_wp2_with fail
  refine (make_lit 3 [1, 1] w4 HT4.out rfl (by simp [I64]) (by decide) _ rfl ?_ 2 rfl).mono ?_
  · decide
  rintro e w5 p5
  obtain ⟨rfl, ht5, hf5⟩ := p5.intro nn1
  have HT5 := Lib.hid ht5
  have HF5 := Lib.hid (HF4.out.trans (hf5.weak hB))
  clear p5 ht5 hf5 HF4 HT4
  go_wp2_with fail
  refine (look_two w5 HT5.out).mono ?_
  rintro e w6 ⟨g, c6, rfl, hg0, hg1, hg2, hg3, hb6⟩
  have HB6 := Lib.hid hb6
  have hs6 := hb6.size
  clear hb6
  go_wp2_with fail
  have HB7 : Hid (Below w5.heap.size w5 ((w6.setCell ⟨g, 0, none⟩ (.int .i64 0)).alloc (.cells #[.int .i64 3, .string ByteArray.empty, .slice (some ⟨g, 0, none⟩) 2 c6] 84))) := (HB6.out.setCell hg0 _).alloc (by simp; omega) _
  refine (look_two _ (HT5.out.below HB7.out)).mono ?_
  rintro e w8 ⟨g8, c8, rfl, hg80, hg81, hg82, hg83, hb8⟩
  have HF8 := Lib.hid (HF5.out.trans (.of_below (below_next HB7.out (by simp; omega) hb8)))
  have hs8 := hb8.size
  clear hb8 HB7 HT5 HF5 HB6 hg2 hg3
  go_wp2_with fail
  refine (awake02_any _).mono ?_
  rintro e w9 ⟨rfl, hb9⟩
  have HF9 := Lib.hid ((HF8.out.trans (.of_below (below_new (.cells #[.int .i64 3, .string ByteArray.empty, .slice (some ⟨g8, 0, none⟩) 2 c8] 84)))).trans (.of_below hb9))
  clear hb9 HF8
  go_wp2_with fail
  go_ret
  exact ⟨rfl, HF9.out.below (Nat.le_refl _)⟩
theorem termNone_row {A : Option Addr} {l c : Nat} (w : World) (hx : ∃ xs, Rds w.heap.size w .u8 A l c xs ∧ Byt xs) (h : Int) (wh : (Lit.int .i64 h).wf = true) :
    Calls Try.prog 11 #[.slice A l c, .int .i64 h] w fun e w' => e = .returned (.bool true) ∧ Below w.heap.size w w' := termNone_walk w A l c h
end Go.Proofs.Ytoelbhmgmlnieaa
