/- The helpers of the laws of layer 15: awake. No condition. -/
import Derived.Test.YtomopjpfdmpgpaaSched2
import Derived.Test.YtomopjpfdmpgpaaOpens
set_option linter.unusedVariables false
set_option linter.unusedSimpArgs false
namespace Go.Proofs.Ytomopjpfdmpgpaa
open Go Go.RowKit Go.WideMaps

theorem begin_eq : beginT [] = ([nT ByteArray.empty], 1) := by decide
def xL : List Int := [120]
theorem next_x : nextT [nT ByteArray.empty] 1 (strOfNums xL) = ([nT ByteArray.empty, nT (strOfNums xL), ⟨3, ByteArray.empty, [1, 2]⟩, ⟨4, ByteArray.empty, [3]⟩], 4) := by decide
set_option maxHeartbeats 1600000 in
set_option maxRecDepth 100000 in
theorem awake15_any (w : World) : Calls Try.prog 31 #[] w (AwakePost w) := by
  go_enter Try.func31, Try.ntmps31
  go_wp2_with fail
  refine (new_any w).mono ?_
  rintro e w1 ⟨tb, rfl, ht1, hb1⟩
  have key := begin_any w1 ht1
  have HF1 := Lib.hid (Frm.of_below (C := tabO) (B := w.heap.size) hb1)
  clear ht1 hb1
  go_wp2_with fail
  refine key.mono ?_
  clear key
  rintro e w2 p2
  obtain ⟨rfl, ht2, hf2⟩ := p2.intro begin_eq
  have HF2 := Lib.hid (HF1.out.trans hf2)
  have key := look_node 1 _ w2 ht2 rfl
  have HT2 := Lib.hid ht2
  clear p2 ht2 hf2 HF1
  go_wp2_with fail
  refine key.mono ?_
  clear key
  rintro e w3 ⟨A3, c3, rfl, ho3, hb3⟩
  obtain ⟨W, hW⟩ : ∃ W, W = w3.alloc (.cells #[.int .i64 1, .string ByteArray.empty, .slice A3 0 c3] 85) := ⟨_, rfl⟩
  have q0 : W.cell? ⟨w3.heap.size, 0, none⟩ = some (.int .i64 1) := by rw [hW]; simp [go_sem]
  have q1 : W.cell? ⟨w3.heap.size, 1, none⟩ = some (.string ByteArray.empty) := by rw [hW]; simp [go_sem]
  have HBW : Hid (Below w2.heap.size w2 W) := by rw [hW]; exact below_next hb3 hb3.size (below_new _)
  have HW := Lib.hid hW
  clear ho3 hb3
  have hconv := run_const_bytes W #[.int .u8 120] 1 1
  obtain ⟨W2, hW2⟩ : ∃ W2, W2 = W.alloc (.cells #[.int .u8 120] 5 (1, 2)) := ⟨_, rfl⟩
  have hr : Rds 0 W2 .u8 (some ⟨W.heap.size, 0, none⟩) 1 1 xL := by
    rw [hW2]
    exact rds_marked (xs := xL) (t := 5) (1, 2) rfl (by decide) _ rfl 1 rfl (by decide)
  have hbW : Below w2.heap.size w2 W2 := by rw [hW2]; exact below_next HBW.out HBW.out.size (below_new _)
  have key := next_any 1 (some ⟨W.heap.size, 0, none⟩) 1 1 xL W2 (HT2.out.below hbW) hr ⟨by omega, by omega⟩
  have HBW2 := Lib.hid hbW
  clear hr hbW
  rw [hW] at hconv
  simp only [World.size_alloc] at hconv
  have hsz : W.heap.size = w3.heap.size + 1 := by rw [hW]; simp
  rw [hsz] at key
  have HW2 : Hid (W2 = (w3.alloc (.cells #[.int .i64 1, .string ByteArray.empty, .slice A3 0 c3] 85)).alloc (.cells #[.int .u8 120] 5 (1, 2))) := by show _ = _; rw [hW2, hW]
  clear hW2 hW q0 q1 hsz HW
  simp only [nT, List.length_nil]
  go_wp2_with fail
  rw [← HW2.out]
  refine key.mono ?_
  clear key hconv
  rintro e w4 p4
  obtain ⟨rfl, ht4, hf4⟩ := p4.intro next_x
  have HF4 := Lib.hid (HF2.out.trans ((Frm.of_below HBW2.out).trans hf4))
  clear p4 ht4 hf4
  go_wp2_with fail
  go_ret
  exact ⟨rfl, HF4.out.below (Nat.le_refl _)⟩
end Go.Proofs.Ytomopjpfdmpgpaa
