/- The program's layer 14: same, only. No condition. Printed by gen_helonly.py. -/
import Derived.Test.YtbfgoojpbhlboaaDoorHelOf
import Derived.Test.YtbfgoojpbhlboaaDoorTurn
set_option linter.unusedVariables false
set_option linter.unusedSimpArgs false
namespace Go.Proofs.YtbfgoojpbhlboaaDoor
open Go Go.RowKit

theorem str14_beq (a b : ByteArray) : (a.toList == b.toList) = decide (a = b) := by
  by_cases h : a = b
  · subst h; simp
  · rw [decide_eq_false h, beq_eq_false_iff_ne]
    intro k
    apply h
    rw [ByteArray.toList_eq, ByteArray.toList_eq] at k
    exact ByteArray.ext (Array.toList_inj.1 k)
set_option maxHeartbeats 3200000 in
set_option maxRecDepth 100000 in
theorem hsame_any (m q : Hel) (s t : HelS) (w : World) :
    Calls Tryd.prog 63 #[.agg (helCs m s), .agg (helCs q t)] w fun e w' => e = .returned (.bool (decide (sameM m q))) ∧ Below w.heap.size w w' := by
  obtain ⟨D, hD⟩ : ∃ D, D = decide (sameM m q) := ⟨_, rfl⟩
  rw [← hD]
  have HD := Lib.hid hD
  clear hD
  obtain ⟨W, hW⟩ : ∃ W, W = (w.alloc (.cells (helCs m s) 48)).alloc (.cells (helCs q t) 48) := ⟨_, rfl⟩
  have hbw : Below w.heap.size w W := by rw [hW]; exact below_pair14 _ _
  have HB := Lib.hid hbw
  have hx : HelB W w.heap.size m s := by rw [hW]; exact heap_alloc2_old w _ _
  have hy : HelB W (w.heap.size + 1) q t := by rw [hW]; exact heap_alloc2_new w _ _
  obtain ⟨⟨x0, x1, x2, x3, x4⟩, x5, x6, x7, x8, x9⟩ := hx.ten
  obtain ⟨⟨y0, y1, y2, y3, y4⟩, y5, y6, y7, y8, y9⟩ := hy.ten
  obtain ⟨m0, m1, m2, m3, m4, m5, m6, m7, m8, m9⟩ := m
  obtain ⟨q0, q1, q2, q3, q4, q5, q6, q7, q8, q9⟩ := q
  unfold helCs at hW ⊢
  simp only at hW ⊢ x0 x1 x2 x3 x4 x5 x6 x7 x8 x9 y0 y1 y2 y3 y4 y5 y6 y7 y8 y9
  clear hbw hx hy
  go_enter Tryd.func63, Tryd.ntmps63
  subst hW
  by_cases c0 : m0 = q0
  rotate_left
  · have HE := Lib.hid (HD.out.trans (decide_eq_false fun h => c0 h.1))
    have e0 : (m0 == q0) = false := by simp [c0]
    clear c0
    go_wp2_with fail
    go_ret
    rw [HE.out]
    exact ⟨rfl, HB.out⟩
  subst c0
  by_cases c1 : m1 = q1
  rotate_left
  · have HE := Lib.hid (HD.out.trans (decide_eq_false fun h => c1 h.2.1))
    have e1 : (m1 == q1) = false := by simp [c1]
    clear c1
    go_wp2_with fail
    go_ret
    rw [HE.out]
    exact ⟨rfl, HB.out⟩
  subst c1
  by_cases c2 : m2 = q2
  rotate_left
  · have HE := Lib.hid (HD.out.trans (decide_eq_false fun h => c2 h.2.2.1))
    have e2 : (m2 == q2) = false := by simp [c2]
    clear c2
    go_wp2_with fail
    go_ret
    rw [HE.out]
    exact ⟨rfl, HB.out⟩
  subst c2
  by_cases c3 : m3 = q3
  rotate_left
  · have HE := Lib.hid (HD.out.trans (decide_eq_false fun h => c3 h.2.2.2.1))
    have e3 : (m3 == q3) = false := by simp [c3]
    clear c3
    go_wp2_with fail
    go_ret
    rw [HE.out]
    exact ⟨rfl, HB.out⟩
  subst c3
  by_cases c4 : m4 = q4
  rotate_left
  · have HE := Lib.hid (HD.out.trans (decide_eq_false fun h => c4 h.2.2.2.2.1))
    have e4 : (m4 == q4) = false := by simp [c4]
    clear c4
    go_wp2_with fail
    go_ret
    rw [HE.out]
    exact ⟨rfl, HB.out⟩
  subst c4
  by_cases c5 : m5 = q5
  rotate_left
  · have HE := Lib.hid (HD.out.trans (decide_eq_false fun h => c5 h.2.2.2.2.2.1))
    obtain rfl : q5 = !m5 := by cases m5 <;> cases q5 <;> simp_all
    clear c5
    go_wp2_with fail
    go_ret
    rw [HE.out]
    exact ⟨rfl, HB.out⟩
  subst c5
  by_cases c7 : m7 = q7
  rotate_left
  · have HE := Lib.hid (HD.out.trans (decide_eq_false fun h => c7 h.2.2.2.2.2.2.1))
    have e7 : (m7.toList == q7.toList) = false := by rw [str14_beq]; exact decide_eq_false c7
    clear c7
    go_wp2_with fail
    go_ret
    rw [HE.out]
    exact ⟨rfl, HB.out⟩
  subst c7
  by_cases c8 : m8 = q8
  rotate_left
  · have HE := Lib.hid (HD.out.trans (decide_eq_false fun h => c8 h.2.2.2.2.2.2.2.1))
    have e8 : (m8 == q8) = false := by simp [c8]
    clear c8
    go_wp2_with fail
    go_ret
    rw [HE.out]
    exact ⟨rfl, HB.out⟩
  subst c8
  by_cases c9 : m9 = q9
  rotate_left
  · have HE := Lib.hid (HD.out.trans (decide_eq_false fun h => c9 h.2.2.2.2.2.2.2.2))
    have e9 : (m9 == q9) = false := by simp [c9]
    clear c9
    go_wp2_with fail
    go_ret
    rw [HE.out]
    exact ⟨rfl, HB.out⟩
  subst c9
  have HE := Lib.hid (HD.out.trans (decide_eq_true (show sameM _ _ from ⟨rfl, rfl, rfl, rfl, rfl, rfl, rfl, rfl, rfl⟩)))
  go_wp2_with fail
  go_ret
  rw [HE.out]
  exact ⟨rfl, HB.out⟩
theorem in14_set {w : World} {g i : Nat} {cs : Array Value} {t : TypeId} {fr : Nat × Nat} (h : w.heap[g]? = some (.cells cs t fr)) (v : Value) : (w.setCell ⟨g, i, none⟩ v).heap[g]? = some (.cells (cs.setIfInBounds i v) t fr) := by
  rw [setCell_eq_setRow w g i cs t fr v h]
  exact setRow_heap w g _ _ t _ h
theorem in14_other (w : World) {g i k : Nat} (v : Value) (h : k ≠ g) : (w.setCell ⟨g, i, none⟩ v).heap[k]? = w.heap[k]? := Below.heap_setCell w ⟨g, i, none⟩ v k h
/-- What only leaves: the message, with the place of its params or none. -/
def onlyS (m : Hel) (s : HelS) : HelS := if m.kind = 1 ∨ m.kind = 8 then s else ⟨none, 0⟩
def hk0Cs (k : Int) : Array Value := #[.int .i64 k, .int .i64 0, .int .i64 0, .int .i64 0, .int .i64 0, .bool false, .slice none 0 0, .string (ByteArray.mk #[]), .int .i64 0, .int .i64 0]
theorem only_hmix : Tryd.prog.follows .mixedOrders = true := by kernel_rfl
structure OnlyS (w : World) (m : Hel) (s : HelS) (m' : Hel) (s' : HelS) (W : World) : Prop where
  b : Below w.heap.size w W
  x : HelB W w.heap.size m s
  r : W.heap[w.heap.size + 1]? = some (.cells hel0Cs 48 (0, 0))
  y : ∃ cs : Array Value, W.heap[w.heap.size + 1 + 1]? = some (.cells cs 48 (0, 0)) ∧ cs.size = 10 ∧ ∀ i : Nat, cs[i]? = (hk0Cs m.kind)[i]? ∨ cs[i]? = (helCs m' s')[i]?
theorem OnlyS.step {w : World} {m : Hel} {s : HelS} {m' : Hel} {s' : HelS} {W W' : World} (h : OnlyS w m s m' s' W) (k : Turns (w.heap.size + 1 + 1) 48 (helCs m' s') W W') : OnlyS w m s m' s' W' := by
  obtain ⟨h1, h2, h3, cs, h4, h5, h6⟩ := h
  obtain ⟨cs', k4, k5, k6⟩ := k.row cs h4
  refine ⟨h1.trans (k.bl.mono (by omega)), (k.off _ (lt_of_get h2) (by omega)).trans h2, (k.off _ (lt_of_get h3) (by omega)).trans h3, cs', k4, k5.trans h5, fun i => ?_⟩
  rcases k6 i with q | q
  · rw [q]; exact h6 i
  · exact .inr q

set_option maxHeartbeats 6400000 in
set_option maxRecDepth 100000 in
theorem only_k1 (m0 m1 m2 m3 m4 : Int) (m5 : Bool) (m6 : List Int) (m7 : ByteArray) (m8 m9 : Int) (s : HelS) (w : World) (h : m0 = 1) :
    Calls Tryd.prog 62 #[.agg (helCs ⟨m0, m1, m2, m3, m4, m5, m6, m7, m8, m9⟩ s)] w fun e w' => e = .returned (.agg (helCs (onlyM ⟨m0, m1, m2, m3, m4, m5, m6, m7, m8, m9⟩) (onlyS ⟨m0, m1, m2, m3, m4, m5, m6, m7, m8, m9⟩ s))) ∧ Below w.heap.size w w' := by
  obtain ⟨W, hW⟩ : ∃ W, W = ((w.alloc (.cells (helCs ⟨m0, m1, m2, m3, m4, m5, m6, m7, m8, m9⟩ s) 48)).alloc (.cells hel0Cs 48)).alloc (.cells (hk0Cs m0) 48) := ⟨_, rfl⟩
  have HB : Hid (Below w.heap.size w W) := by rw [hW]; exact (below_pair14 _ _).alloc (by simp; omega) _
  have hx : HelB W w.heap.size ⟨m0, m1, m2, m3, m4, m5, m6, m7, m8, m9⟩ s := by rw [hW]; exact (Below.heap_alloc _ _ _ (by simp; omega)).trans (heap_alloc2_old w _ _)
  have hr : W.heap[w.heap.size + 1]? = some (.cells hel0Cs 48 (0, 0)) := by rw [hW]; exact (Below.heap_alloc _ _ _ (by simp)).trans (heap_alloc2_new w _ _)
  have hy : W.heap[w.heap.size + 1 + 1]? = some (.cells (hk0Cs m0) 48 (0, 0)) := by
    have := heap_alloc_new ((w.alloc (.cells (helCs ⟨m0, m1, m2, m3, m4, m5, m6, m7, m8, m9⟩ s) 48)).alloc (.cells hel0Cs 48)) (.cells (hk0Cs m0) 48)
    rw [World.size_alloc, World.size_alloc] at this
    rw [hW]; exact this
  have hmix := only_hmix
  have HX := Lib.hid hx
  have HR := Lib.hid hr
  have HY := Lib.hid hy
  unfold helCs hel0Cs hk0Cs at hW
  simp only at hW
  clear hx hr hy
  subst h
  have HOM : Hid (onlyM (Hel.mk 1 m1 m2 m3 m4 m5 m6 m7 m8 m9) = ⟨1, m1, m2, m3, m4, m5, m6, ByteArray.empty, 0, 0⟩) := by show _ = _; simp [onlyM]
  have HOS : Hid (onlyS (Hel.mk 1 m1 m2 m3 m4 m5 m6 m7 m8 m9) s = s) := by show _ = _; simp [onlyS]
  obtain ⟨⟨x0, x1, x2, x3, x4⟩, x5, x6, x7, x8, x9⟩ := HX.out.ten
  unfold helCs
  simp only at x0 x1 x2 x3 x4 x5 x6 x7 x8 x9 ⊢
  go_enter Tryd.func62, Tryd.ntmps62
  go_wp2_with fail
  rw [← hW]
  go_wp2_with fail
  refine wp_lanes3 hmix (OnlyS w (Hel.mk 1 m1 m2 m3 m4 m5 m6 m7 m8 m9) s ⟨1, m1, m2, m3, m4, m5, m6, ByteArray.empty, 0, 0⟩ s) (Turns (w.heap.size + 1 + 1) 48 (helCs ⟨1, m1, m2, m3, m4, m5, m6, ByteArray.empty, 0, 0⟩ s)) (turnPR (w.heap.size + 1 + 1) 48 (helCs ⟨1, m1, m2, m3, m4, m5, m6, ByteArray.empty, 0, 0⟩ s) [.inl (.pointer (some ⟨w.heap.size, 1, none⟩)), .inl (.int .i64 m1), .inl (.pointer (some ⟨w.heap.size, 2, none⟩)), .inl (.int .i64 m2), .inl (.pointer (some ⟨w.heap.size, 3, none⟩)), .inl (.int .i64 m3), .inl (.pointer (some ⟨w.heap.size, 4, none⟩)), .inl (.int .i64 m4), .inl (.pointer (some ⟨w.heap.size, 5, none⟩)), .inl (.bool m5), .inl (.pointer (some ⟨w.heap.size, 6, none⟩)), .inl (.slice s.A m6.length s.c), .inl (.pointer (some ⟨w.heap.size + 1 + 1, 1, none⟩)), .inr 1, .inl (.pointer (some ⟨w.heap.size + 1 + 1, 2, none⟩)), .inr 2, .inl (.pointer (some ⟨w.heap.size + 1 + 1, 3, none⟩)), .inr 3, .inl (.pointer (some ⟨w.heap.size + 1 + 1, 4, none⟩)), .inr 4, .inl (.pointer (some ⟨w.heap.size + 1 + 1, 5, none⟩)), .inr 5, .inl (.pointer (some ⟨w.heap.size + 1 + 1, 6, none⟩)), .inr 6]) (by decide +kernel) 71 rfl (by decide +kernel) (fun _ _ _ h k => h.trans k) Turns.refl (fun _ _ => OnlyS.step) turnPR_step ⟨HB.out.drew, HX.out, HR.out, _, HY.out, rfl, fun _ => .inl rfl⟩ ?_
  refine ⟨?_, ?_, ?_, ?_, ?_, ?_, ?_, ?_, ?_, ?_, ?_, ?_, ?_, ?_, ?_, ?_, ?_, ?_, ?_, ?_, ?_, ?_, ?_, ?_, ?_⟩
  · intro a W1 hb hs hun hdep
    have e1 := hun 1 (by decide +kernel)
    simp at e1
    refine .inl ⟨rfl, ?_⟩
    unfold Oper.wp
    go_simp
    exact ⟨_, rfl, rfl, Turns.refl _⟩
  · intro a W1 hb hs hun hdep
    have e1 : a.tmps[11]?.getD undef = .pointer (some ⟨w.heap.size, 1, none⟩) := hdep 0 (by decide +kernel)
    have c1 : W1.cell? ⟨w.heap.size, 1, none⟩ = some (.int .i64 m1) := hs.x.cell 1
    refine .inl ⟨rfl, ?_⟩
    unfold Oper.wp
    go_simp
    exact ⟨_, rfl, rfl, Turns.refl _⟩
  · intro a W1 hb hs hun hdep
    have e1 := hun 1 (by decide +kernel)
    simp at e1
    refine .inl ⟨rfl, ?_⟩
    unfold Oper.wp
    go_simp
    exact ⟨_, rfl, rfl, Turns.refl _⟩
  · intro a W1 hb hs hun hdep
    have e1 : a.tmps[13]?.getD undef = .pointer (some ⟨w.heap.size, 2, none⟩) := hdep 2 (by decide +kernel)
    have c1 : W1.cell? ⟨w.heap.size, 2, none⟩ = some (.int .i64 m2) := hs.x.cell 2
    refine .inl ⟨rfl, ?_⟩
    unfold Oper.wp
    go_simp
    exact ⟨_, rfl, rfl, Turns.refl _⟩
  · intro a W1 hb hs hun hdep
    have e1 := hun 1 (by decide +kernel)
    simp at e1
    refine .inl ⟨rfl, ?_⟩
    unfold Oper.wp
    go_simp
    exact ⟨_, rfl, rfl, Turns.refl _⟩
  · intro a W1 hb hs hun hdep
    have e1 : a.tmps[15]?.getD undef = .pointer (some ⟨w.heap.size, 3, none⟩) := hdep 4 (by decide +kernel)
    have c1 : W1.cell? ⟨w.heap.size, 3, none⟩ = some (.int .i64 m3) := hs.x.cell 3
    refine .inl ⟨rfl, ?_⟩
    unfold Oper.wp
    go_simp
    exact ⟨_, rfl, rfl, Turns.refl _⟩
  · intro a W1 hb hs hun hdep
    have e1 := hun 1 (by decide +kernel)
    simp at e1
    refine .inl ⟨rfl, ?_⟩
    unfold Oper.wp
    go_simp
    exact ⟨_, rfl, rfl, Turns.refl _⟩
  · intro a W1 hb hs hun hdep
    have e1 : a.tmps[17]?.getD undef = .pointer (some ⟨w.heap.size, 4, none⟩) := hdep 6 (by decide +kernel)
    have c1 : W1.cell? ⟨w.heap.size, 4, none⟩ = some (.int .i64 m4) := hs.x.cell 4
    refine .inl ⟨rfl, ?_⟩
    unfold Oper.wp
    go_simp
    exact ⟨_, rfl, rfl, Turns.refl _⟩
  · intro a W1 hb hs hun hdep
    have e1 := hun 1 (by decide +kernel)
    simp at e1
    refine .inl ⟨rfl, ?_⟩
    unfold Oper.wp
    go_simp
    exact ⟨_, rfl, rfl, Turns.refl _⟩
  · intro a W1 hb hs hun hdep
    have e1 : a.tmps[19]?.getD undef = .pointer (some ⟨w.heap.size, 5, none⟩) := hdep 8 (by decide +kernel)
    have c1 : W1.cell? ⟨w.heap.size, 5, none⟩ = some (.bool m5) := hs.x.cell 5
    refine .inl ⟨rfl, ?_⟩
    unfold Oper.wp
    go_simp
    exact ⟨_, rfl, rfl, Turns.refl _⟩
  · intro a W1 hb hs hun hdep
    have e1 := hun 1 (by decide +kernel)
    simp at e1
    refine .inl ⟨rfl, ?_⟩
    unfold Oper.wp
    go_simp
    exact ⟨_, rfl, rfl, Turns.refl _⟩
  · intro a W1 hb hs hun hdep
    have e1 : a.tmps[21]?.getD undef = .pointer (some ⟨w.heap.size, 6, none⟩) := hdep 10 (by decide +kernel)
    have c1 : W1.cell? ⟨w.heap.size, 6, none⟩ = some (.slice s.A m6.length s.c) := hs.x.cell 6
    refine .inl ⟨rfl, ?_⟩
    unfold Oper.wp
    go_simp
    exact ⟨_, rfl, rfl, Turns.refl _⟩
  · intro a W1 hb hs hun hdep
    have e1 := hun 3 (by decide +kernel)
    simp at e1
    refine .inl ⟨rfl, ?_⟩
    unfold Oper.wp
    go_simp
    exact ⟨_, rfl, rfl, Turns.refl _⟩
  · intro a W1 hb hs hun hdep
    have e1 : a.tmps[23]?.getD undef = .pointer (some ⟨w.heap.size + 1 + 1, 1, none⟩) := hdep 12 (by decide +kernel)
    have e2 : a.tmps[12]?.getD undef = .int .i64 m1 := hdep 1 (by decide +kernel)
    obtain ⟨cs, hcs, hsz, -⟩ := hs.y
    exact .inl (lane_store _ 23 12 rfl rfl rfl e1 e2 (by kernel_rfl) hcs (by omega) rfl rfl rfl rfl _)
  · intro a W1 hb hs hun hdep
    have e1 := hun 3 (by decide +kernel)
    simp at e1
    refine .inl ⟨rfl, ?_⟩
    unfold Oper.wp
    go_simp
    exact ⟨_, rfl, rfl, Turns.refl _⟩
  · intro a W1 hb hs hun hdep
    have e1 : a.tmps[24]?.getD undef = .pointer (some ⟨w.heap.size + 1 + 1, 2, none⟩) := hdep 14 (by decide +kernel)
    have e2 : a.tmps[14]?.getD undef = .int .i64 m2 := hdep 3 (by decide +kernel)
    obtain ⟨cs, hcs, hsz, -⟩ := hs.y
    exact .inl (lane_store _ 24 14 rfl rfl rfl e1 e2 (by kernel_rfl) hcs (by omega) rfl rfl rfl rfl _)
  · intro a W1 hb hs hun hdep
    have e1 := hun 3 (by decide +kernel)
    simp at e1
    refine .inl ⟨rfl, ?_⟩
    unfold Oper.wp
    go_simp
    exact ⟨_, rfl, rfl, Turns.refl _⟩
  · intro a W1 hb hs hun hdep
    have e1 : a.tmps[25]?.getD undef = .pointer (some ⟨w.heap.size + 1 + 1, 3, none⟩) := hdep 16 (by decide +kernel)
    have e2 : a.tmps[16]?.getD undef = .int .i64 m3 := hdep 5 (by decide +kernel)
    obtain ⟨cs, hcs, hsz, -⟩ := hs.y
    exact .inl (lane_store _ 25 16 rfl rfl rfl e1 e2 (by kernel_rfl) hcs (by omega) rfl rfl rfl rfl _)
  · intro a W1 hb hs hun hdep
    have e1 := hun 3 (by decide +kernel)
    simp at e1
    refine .inl ⟨rfl, ?_⟩
    unfold Oper.wp
    go_simp
    exact ⟨_, rfl, rfl, Turns.refl _⟩
  · intro a W1 hb hs hun hdep
    have e1 : a.tmps[26]?.getD undef = .pointer (some ⟨w.heap.size + 1 + 1, 4, none⟩) := hdep 18 (by decide +kernel)
    have e2 : a.tmps[18]?.getD undef = .int .i64 m4 := hdep 7 (by decide +kernel)
    obtain ⟨cs, hcs, hsz, -⟩ := hs.y
    exact .inl (lane_store _ 26 18 rfl rfl rfl e1 e2 (by kernel_rfl) hcs (by omega) rfl rfl rfl rfl _)
  · intro a W1 hb hs hun hdep
    have e1 := hun 3 (by decide +kernel)
    simp at e1
    refine .inl ⟨rfl, ?_⟩
    unfold Oper.wp
    go_simp
    exact ⟨_, rfl, rfl, Turns.refl _⟩
  · intro a W1 hb hs hun hdep
    have e1 : a.tmps[27]?.getD undef = .pointer (some ⟨w.heap.size + 1 + 1, 5, none⟩) := hdep 20 (by decide +kernel)
    have e2 : a.tmps[20]?.getD undef = .bool m5 := hdep 9 (by decide +kernel)
    obtain ⟨cs, hcs, hsz, -⟩ := hs.y
    exact .inl (lane_store _ 27 20 rfl rfl rfl e1 e2 (by kernel_rfl) hcs (by omega) rfl rfl rfl rfl _)
  · intro a W1 hb hs hun hdep
    have e1 := hun 3 (by decide +kernel)
    simp at e1
    refine .inl ⟨rfl, ?_⟩
    unfold Oper.wp
    go_simp
    exact ⟨_, rfl, rfl, Turns.refl _⟩
  · intro a W1 hb hs hun hdep
    have e1 : a.tmps[28]?.getD undef = .pointer (some ⟨w.heap.size + 1 + 1, 6, none⟩) := hdep 22 (by decide +kernel)
    have e2 : a.tmps[22]?.getD undef = .slice s.A m6.length s.c := hdep 11 (by decide +kernel)
    obtain ⟨cs, hcs, hsz, -⟩ := hs.y
    exact .inl (lane_store _ 28 22 rfl rfl rfl e1 e2 (by kernel_rfl) hcs (by omega) rfl rfl rfl rfl _)
  · show LaneEnd3 _ _ _ _ _ _ _
    intro a w1 hds hts hb hs hun hpr
    obtain ⟨cs, hcs, hsz, hor⟩ := hs.y
    have hY : w1.heap[w.heap.size + 1 + 1]? = some (.cells (helCs ⟨1, m1, m2, m3, m4, m5, m6, ByteArray.empty, 0, 0⟩ s) 48 (0, 0)) := by
      have hT : cs = helCs ⟨1, m1, m2, m3, m4, m5, m6, ByteArray.empty, 0, 0⟩ s := by
        refine turned_all (n := 10) hsz rfl fun i hi => ?_
        rcases hor i with q | q
        · rw [q]
          match i, hi with
          | 0, _ => rfl
          | 1, _ => obtain ⟨c', h1, h2⟩ := hpr 13 (by decide +kernel); rw [hcs] at h1; cases h1; exact q.symm.trans h2
          | 2, _ => obtain ⟨c', h1, h2⟩ := hpr 15 (by decide +kernel); rw [hcs] at h1; cases h1; exact q.symm.trans h2
          | 3, _ => obtain ⟨c', h1, h2⟩ := hpr 17 (by decide +kernel); rw [hcs] at h1; cases h1; exact q.symm.trans h2
          | 4, _ => obtain ⟨c', h1, h2⟩ := hpr 19 (by decide +kernel); rw [hcs] at h1; cases h1; exact q.symm.trans h2
          | 5, _ => obtain ⟨c', h1, h2⟩ := hpr 21 (by decide +kernel); rw [hcs] at h1; cases h1; exact q.symm.trans h2
          | 6, _ => obtain ⟨c', h1, h2⟩ := hpr 23 (by decide +kernel); rw [hcs] at h1; cases h1; exact q.symm.trans h2
          | 7, _ => rfl
          | 8, _ => rfl
          | 9, _ => rfl
        · exact q
      rw [hcs, hT]
    have hs1 := hs.b
    have hs2 := hs.r
    have HB1 := Lib.hid hs1
    have HR1 := Lib.hid hs2
    have HY1 := Lib.hid hY
    have u1 := hun 1 (by decide +kernel)
    have u2 := hun 2 (by decide +kernel)
    have u3 := hun 3 (by decide +kernel)
    simp at u1 u2 u3
    have ea : a.tmps = #[a.tmps[0]?.getD undef, a.tmps[1]?.getD undef, a.tmps[2]?.getD undef, a.tmps[3]?.getD undef, a.tmps[4]?.getD undef, a.tmps[5]?.getD undef, a.tmps[6]?.getD undef, a.tmps[7]?.getD undef, a.tmps[8]?.getD undef, a.tmps[9]?.getD undef, a.tmps[10]?.getD undef, a.tmps[11]?.getD undef, a.tmps[12]?.getD undef, a.tmps[13]?.getD undef, a.tmps[14]?.getD undef, a.tmps[15]?.getD undef, a.tmps[16]?.getD undef, a.tmps[17]?.getD undef, a.tmps[18]?.getD undef, a.tmps[19]?.getD undef, a.tmps[20]?.getD undef, a.tmps[21]?.getD undef, a.tmps[22]?.getD undef, a.tmps[23]?.getD undef, a.tmps[24]?.getD undef, a.tmps[25]?.getD undef, a.tmps[26]?.getD undef, a.tmps[27]?.getD undef, a.tmps[28]?.getD undef, a.tmps[29]?.getD undef, a.tmps[30]?.getD undef, a.tmps[31]?.getD undef, a.tmps[32]?.getD undef, a.tmps[33]?.getD undef, a.tmps[34]?.getD undef, a.tmps[35]?.getD undef, a.tmps[36]?.getD undef, a.tmps[37]?.getD undef, a.tmps[38]?.getD undef, a.tmps[39]?.getD undef, a.tmps[40]?.getD undef, a.tmps[41]?.getD undef, a.tmps[42]?.getD undef, a.tmps[43]?.getD undef, a.tmps[44]?.getD undef, a.tmps[45]?.getD undef, a.tmps[46]?.getD undef, a.tmps[47]?.getD undef, a.tmps[48]?.getD undef, a.tmps[49]?.getD undef, a.tmps[50]?.getD undef, a.tmps[51]?.getD undef, a.tmps[52]?.getD undef, a.tmps[53]?.getD undef, a.tmps[54]?.getD undef, a.tmps[55]?.getD undef, a.tmps[56]?.getD undef, a.tmps[57]?.getD undef, a.tmps[58]?.getD undef, a.tmps[59]?.getD undef, a.tmps[60]?.getD undef, a.tmps[61]?.getD undef, a.tmps[62]?.getD undef, a.tmps[63]?.getD undef, a.tmps[64]?.getD undef, a.tmps[65]?.getD undef, a.tmps[66]?.getD undef, a.tmps[67]?.getD undef, a.tmps[68]?.getD undef, a.tmps[69]?.getD undef, a.tmps[70]?.getD undef] := arr_map a.tmps 71 (by simpa using hts)
    try simp only [Exit.then]
    rw [u1, u2, u3] at ea
    obtain ⟨tm, ds⟩ := a
    simp only at ea hds
    subst hds
    clear hun hpr u1 u2 u3 hts hb hs hcs hor hY hs1 hs2
    generalize tm[0]?.getD undef = q0 at ea
    generalize tm[4]?.getD undef = q4 at ea
    generalize tm[5]?.getD undef = q5 at ea
    generalize tm[6]?.getD undef = q6 at ea
    generalize tm[7]?.getD undef = q7 at ea
    generalize tm[8]?.getD undef = q8 at ea
    generalize tm[9]?.getD undef = q9 at ea
    generalize tm[10]?.getD undef = q10 at ea
    generalize tm[11]?.getD undef = q11 at ea
    generalize tm[12]?.getD undef = q12 at ea
    generalize tm[13]?.getD undef = q13 at ea
    generalize tm[14]?.getD undef = q14 at ea
    generalize tm[15]?.getD undef = q15 at ea
    generalize tm[16]?.getD undef = q16 at ea
    generalize tm[17]?.getD undef = q17 at ea
    generalize tm[18]?.getD undef = q18 at ea
    generalize tm[19]?.getD undef = q19 at ea
    generalize tm[20]?.getD undef = q20 at ea
    generalize tm[21]?.getD undef = q21 at ea
    generalize tm[22]?.getD undef = q22 at ea
    generalize tm[23]?.getD undef = q23 at ea
    generalize tm[24]?.getD undef = q24 at ea
    generalize tm[25]?.getD undef = q25 at ea
    generalize tm[26]?.getD undef = q26 at ea
    generalize tm[27]?.getD undef = q27 at ea
    generalize tm[28]?.getD undef = q28 at ea
    generalize tm[29]?.getD undef = q29 at ea
    generalize tm[30]?.getD undef = q30 at ea
    generalize tm[31]?.getD undef = q31 at ea
    generalize tm[32]?.getD undef = q32 at ea
    generalize tm[33]?.getD undef = q33 at ea
    generalize tm[34]?.getD undef = q34 at ea
    generalize tm[35]?.getD undef = q35 at ea
    generalize tm[36]?.getD undef = q36 at ea
    generalize tm[37]?.getD undef = q37 at ea
    generalize tm[38]?.getD undef = q38 at ea
    generalize tm[39]?.getD undef = q39 at ea
    generalize tm[40]?.getD undef = q40 at ea
    generalize tm[41]?.getD undef = q41 at ea
    generalize tm[42]?.getD undef = q42 at ea
    generalize tm[43]?.getD undef = q43 at ea
    generalize tm[44]?.getD undef = q44 at ea
    generalize tm[45]?.getD undef = q45 at ea
    generalize tm[46]?.getD undef = q46 at ea
    generalize tm[47]?.getD undef = q47 at ea
    generalize tm[48]?.getD undef = q48 at ea
    generalize tm[49]?.getD undef = q49 at ea
    generalize tm[50]?.getD undef = q50 at ea
    generalize tm[51]?.getD undef = q51 at ea
    generalize tm[52]?.getD undef = q52 at ea
    generalize tm[53]?.getD undef = q53 at ea
    generalize tm[54]?.getD undef = q54 at ea
    generalize tm[55]?.getD undef = q55 at ea
    generalize tm[56]?.getD undef = q56 at ea
    generalize tm[57]?.getD undef = q57 at ea
    generalize tm[58]?.getD undef = q58 at ea
    generalize tm[59]?.getD undef = q59 at ea
    generalize tm[60]?.getD undef = q60 at ea
    generalize tm[61]?.getD undef = q61 at ea
    generalize tm[62]?.getD undef = q62 at ea
    generalize tm[63]?.getD undef = q63 at ea
    generalize tm[64]?.getD undef = q64 at ea
    generalize tm[65]?.getD undef = q65 at ea
    generalize tm[66]?.getD undef = q66 at ea
    generalize tm[67]?.getD undef = q67 at ea
    generalize tm[68]?.getD undef = q68 at ea
    generalize tm[69]?.getD undef = q69 at ea
    generalize tm[70]?.getD undef = q70 at ea
    subst ea
    clear x0 x1 x2 x3 x4 x5 x6 x7 x8 x9
    have hz : HelB w1 (w.heap.size + 1 + 1) ⟨1, m1, m2, m3, m4, m5, m6, ByteArray.empty, 0, 0⟩ s := HY1.out
    have HRz : Hid (w1.heap[w.heap.size + 1]? = some (.cells hel0Cs 48 (0, 0))) := HR1.out
    have HBz : Hid (Below w.heap.size w w1) := HB1.out
    obtain ⟨⟨z0, z1, z2, z3, z4⟩, z5, z6, z7, z8, z9⟩ := hz.ten
    simp only [List.length_nil] at z0 z1 z2 z3 z4 z5 z6 z7 z8 z9
    clear hz
    obtain ⟨u, hu⟩ : ∃ u, u = World.setRow w1 (w.heap.size + 1) (helCs ⟨1, m1, m2, m3, m4, m5, m6, ByteArray.empty, 0, 0⟩ s) := ⟨_, rfl⟩
    have hud : HelB u (w.heap.size + 1) ⟨1, m1, m2, m3, m4, m5, m6, ByteArray.empty, 0, 0⟩ s := by rw [hu]; exact setRow_heap _ _ _ _ _ _ HRz.out
    have HUB : Hid (Below w.heap.size w u) := by rw [hu]; exact below_setRow HBz.out (by omega) _
    unfold helCs at hu
    simp only [List.length_nil] at hu
    go_wp2_with (first | ((with_reducible show wpList _ _ _ (Oper.mk _ (Op.store 48 (.tmp 2) _) _ _ _ _ :: _) _ _); (refine wp_store_row rfl rfl _ _ _ rfl (w.heap.size + 1) _ _ 48 rfl rfl hel_size HRz.out rfl (by simp [Value.oneCell']) ?_)))
    rw [← hu]
    obtain ⟨⟨v0, v1, v2, v3, v4⟩, v5, v6, v7, v8, v9⟩ := hud.ten
    simp only [List.length_nil] at v0 v1 v2 v3 v4 v5 v6 v7 v8 v9
    clear hu hud z0 z1 z2 z3 z4 z5 z6 z7 z8 z9
    go_wp2_with fail
    refine bodyPost_ret (v := .agg (helCs ⟨1, m1, m2, m3, m4, m5, m6, ByteArray.empty, 0, 0⟩ s)) (by simp [results, Tryd.results62, go_sem, v0, v1, v2, v3, v4, v5, v6, v7, v8, v9, helCs]) rfl ?_
    exact ⟨by rw [HOM.out, HOS.out]; rfl, HUB.out⟩
set_option maxHeartbeats 6400000 in
set_option maxRecDepth 100000 in
theorem only_k2 (m0 m1 m2 m3 m4 : Int) (m5 : Bool) (m6 : List Int) (m7 : ByteArray) (m8 m9 : Int) (s : HelS) (w : World) (h : m0 = 2) :
    Calls Tryd.prog 62 #[.agg (helCs ⟨m0, m1, m2, m3, m4, m5, m6, m7, m8, m9⟩ s)] w fun e w' => e = .returned (.agg (helCs (onlyM ⟨m0, m1, m2, m3, m4, m5, m6, m7, m8, m9⟩) (onlyS ⟨m0, m1, m2, m3, m4, m5, m6, m7, m8, m9⟩ s))) ∧ Below w.heap.size w w' := by
  obtain ⟨W, hW⟩ : ∃ W, W = ((w.alloc (.cells (helCs ⟨m0, m1, m2, m3, m4, m5, m6, m7, m8, m9⟩ s) 48)).alloc (.cells hel0Cs 48)).alloc (.cells (hk0Cs m0) 48) := ⟨_, rfl⟩
  have HB : Hid (Below w.heap.size w W) := by rw [hW]; exact (below_pair14 _ _).alloc (by simp; omega) _
  have hx : HelB W w.heap.size ⟨m0, m1, m2, m3, m4, m5, m6, m7, m8, m9⟩ s := by rw [hW]; exact (Below.heap_alloc _ _ _ (by simp; omega)).trans (heap_alloc2_old w _ _)
  have hr : W.heap[w.heap.size + 1]? = some (.cells hel0Cs 48 (0, 0)) := by rw [hW]; exact (Below.heap_alloc _ _ _ (by simp)).trans (heap_alloc2_new w _ _)
  have hy : W.heap[w.heap.size + 1 + 1]? = some (.cells (hk0Cs m0) 48 (0, 0)) := by
    have := heap_alloc_new ((w.alloc (.cells (helCs ⟨m0, m1, m2, m3, m4, m5, m6, m7, m8, m9⟩ s) 48)).alloc (.cells hel0Cs 48)) (.cells (hk0Cs m0) 48)
    rw [World.size_alloc, World.size_alloc] at this
    rw [hW]; exact this
  have hmix := only_hmix
  have HX := Lib.hid hx
  have HR := Lib.hid hr
  have HY := Lib.hid hy
  unfold helCs hel0Cs hk0Cs at hW
  simp only at hW
  clear hx hr hy
  subst h
  have HOM : Hid (onlyM (Hel.mk 2 m1 m2 m3 m4 m5 m6 m7 m8 m9) = ⟨2, m1, m2, 0, 0, m5, [], ByteArray.empty, m8, 0⟩) := by show _ = _; simp [onlyM]
  have HOS : Hid (onlyS (Hel.mk 2 m1 m2 m3 m4 m5 m6 m7 m8 m9) s = ⟨none, 0⟩) := by show _ = _; simp [onlyS]
  obtain ⟨⟨x0, x1, x2, x3, x4⟩, x5, x6, x7, x8, x9⟩ := HX.out.ten
  unfold helCs
  simp only at x0 x1 x2 x3 x4 x5 x6 x7 x8 x9 ⊢
  go_enter Tryd.func62, Tryd.ntmps62
  go_wp2_with fail
  rw [← hW]
  go_wp2_with fail
  refine wp_lanes3 hmix (OnlyS w (Hel.mk 2 m1 m2 m3 m4 m5 m6 m7 m8 m9) s ⟨2, m1, m2, 0, 0, m5, [], ByteArray.empty, m8, 0⟩ ⟨none, 0⟩) (Turns (w.heap.size + 1 + 1) 48 (helCs ⟨2, m1, m2, 0, 0, m5, [], ByteArray.empty, m8, 0⟩ ⟨none, 0⟩)) (turnPR (w.heap.size + 1 + 1) 48 (helCs ⟨2, m1, m2, 0, 0, m5, [], ByteArray.empty, m8, 0⟩ ⟨none, 0⟩) [.inl (.pointer (some ⟨w.heap.size, 1, none⟩)), .inl (.int .i64 m1), .inl (.pointer (some ⟨w.heap.size, 2, none⟩)), .inl (.int .i64 m2), .inl (.pointer (some ⟨w.heap.size, 8, none⟩)), .inl (.int .i64 m8), .inl (.pointer (some ⟨w.heap.size, 5, none⟩)), .inl (.bool m5), .inl (.pointer (some ⟨w.heap.size + 1 + 1, 1, none⟩)), .inr 1, .inl (.pointer (some ⟨w.heap.size + 1 + 1, 2, none⟩)), .inr 2, .inl (.pointer (some ⟨w.heap.size + 1 + 1, 8, none⟩)), .inr 8, .inl (.pointer (some ⟨w.heap.size + 1 + 1, 5, none⟩)), .inr 5]) (by decide +kernel) 71 rfl (by decide +kernel) (fun _ _ _ h k => h.trans k) Turns.refl (fun _ _ => OnlyS.step) turnPR_step ⟨HB.out.drew, HX.out, HR.out, _, HY.out, rfl, fun _ => .inl rfl⟩ ?_
  refine ⟨?_, ?_, ?_, ?_, ?_, ?_, ?_, ?_, ?_, ?_, ?_, ?_, ?_, ?_, ?_, ?_, ?_⟩
  · intro a W1 hb hs hun hdep
    have e1 := hun 1 (by decide +kernel)
    simp at e1
    refine .inl ⟨rfl, ?_⟩
    unfold Oper.wp
    go_simp
    exact ⟨_, rfl, rfl, Turns.refl _⟩
  · intro a W1 hb hs hun hdep
    have e1 : a.tmps[31]?.getD undef = .pointer (some ⟨w.heap.size, 1, none⟩) := hdep 0 (by decide +kernel)
    have c1 : W1.cell? ⟨w.heap.size, 1, none⟩ = some (.int .i64 m1) := hs.x.cell 1
    refine .inl ⟨rfl, ?_⟩
    unfold Oper.wp
    go_simp
    exact ⟨_, rfl, rfl, Turns.refl _⟩
  · intro a W1 hb hs hun hdep
    have e1 := hun 1 (by decide +kernel)
    simp at e1
    refine .inl ⟨rfl, ?_⟩
    unfold Oper.wp
    go_simp
    exact ⟨_, rfl, rfl, Turns.refl _⟩
  · intro a W1 hb hs hun hdep
    have e1 : a.tmps[33]?.getD undef = .pointer (some ⟨w.heap.size, 2, none⟩) := hdep 2 (by decide +kernel)
    have c1 : W1.cell? ⟨w.heap.size, 2, none⟩ = some (.int .i64 m2) := hs.x.cell 2
    refine .inl ⟨rfl, ?_⟩
    unfold Oper.wp
    go_simp
    exact ⟨_, rfl, rfl, Turns.refl _⟩
  · intro a W1 hb hs hun hdep
    have e1 := hun 1 (by decide +kernel)
    simp at e1
    refine .inl ⟨rfl, ?_⟩
    unfold Oper.wp
    go_simp
    exact ⟨_, rfl, rfl, Turns.refl _⟩
  · intro a W1 hb hs hun hdep
    have e1 : a.tmps[35]?.getD undef = .pointer (some ⟨w.heap.size, 8, none⟩) := hdep 4 (by decide +kernel)
    have c1 : W1.cell? ⟨w.heap.size, 8, none⟩ = some (.int .i64 m8) := hs.x.cell 8
    refine .inl ⟨rfl, ?_⟩
    unfold Oper.wp
    go_simp
    exact ⟨_, rfl, rfl, Turns.refl _⟩
  · intro a W1 hb hs hun hdep
    have e1 := hun 1 (by decide +kernel)
    simp at e1
    refine .inl ⟨rfl, ?_⟩
    unfold Oper.wp
    go_simp
    exact ⟨_, rfl, rfl, Turns.refl _⟩
  · intro a W1 hb hs hun hdep
    have e1 : a.tmps[37]?.getD undef = .pointer (some ⟨w.heap.size, 5, none⟩) := hdep 6 (by decide +kernel)
    have c1 : W1.cell? ⟨w.heap.size, 5, none⟩ = some (.bool m5) := hs.x.cell 5
    refine .inl ⟨rfl, ?_⟩
    unfold Oper.wp
    go_simp
    exact ⟨_, rfl, rfl, Turns.refl _⟩
  · intro a W1 hb hs hun hdep
    have e1 := hun 3 (by decide +kernel)
    simp at e1
    refine .inl ⟨rfl, ?_⟩
    unfold Oper.wp
    go_simp
    exact ⟨_, rfl, rfl, Turns.refl _⟩
  · intro a W1 hb hs hun hdep
    have e1 : a.tmps[39]?.getD undef = .pointer (some ⟨w.heap.size + 1 + 1, 1, none⟩) := hdep 8 (by decide +kernel)
    have e2 : a.tmps[32]?.getD undef = .int .i64 m1 := hdep 1 (by decide +kernel)
    obtain ⟨cs, hcs, hsz, -⟩ := hs.y
    exact .inl (lane_store _ 39 32 rfl rfl rfl e1 e2 (by kernel_rfl) hcs (by omega) rfl rfl rfl rfl _)
  · intro a W1 hb hs hun hdep
    have e1 := hun 3 (by decide +kernel)
    simp at e1
    refine .inl ⟨rfl, ?_⟩
    unfold Oper.wp
    go_simp
    exact ⟨_, rfl, rfl, Turns.refl _⟩
  · intro a W1 hb hs hun hdep
    have e1 : a.tmps[40]?.getD undef = .pointer (some ⟨w.heap.size + 1 + 1, 2, none⟩) := hdep 10 (by decide +kernel)
    have e2 : a.tmps[34]?.getD undef = .int .i64 m2 := hdep 3 (by decide +kernel)
    obtain ⟨cs, hcs, hsz, -⟩ := hs.y
    exact .inl (lane_store _ 40 34 rfl rfl rfl e1 e2 (by kernel_rfl) hcs (by omega) rfl rfl rfl rfl _)
  · intro a W1 hb hs hun hdep
    have e1 := hun 3 (by decide +kernel)
    simp at e1
    refine .inl ⟨rfl, ?_⟩
    unfold Oper.wp
    go_simp
    exact ⟨_, rfl, rfl, Turns.refl _⟩
  · intro a W1 hb hs hun hdep
    have e1 : a.tmps[41]?.getD undef = .pointer (some ⟨w.heap.size + 1 + 1, 8, none⟩) := hdep 12 (by decide +kernel)
    have e2 : a.tmps[36]?.getD undef = .int .i64 m8 := hdep 5 (by decide +kernel)
    obtain ⟨cs, hcs, hsz, -⟩ := hs.y
    exact .inl (lane_store _ 41 36 rfl rfl rfl e1 e2 (by kernel_rfl) hcs (by omega) rfl rfl rfl rfl _)
  · intro a W1 hb hs hun hdep
    have e1 := hun 3 (by decide +kernel)
    simp at e1
    refine .inl ⟨rfl, ?_⟩
    unfold Oper.wp
    go_simp
    exact ⟨_, rfl, rfl, Turns.refl _⟩
  · intro a W1 hb hs hun hdep
    have e1 : a.tmps[42]?.getD undef = .pointer (some ⟨w.heap.size + 1 + 1, 5, none⟩) := hdep 14 (by decide +kernel)
    have e2 : a.tmps[38]?.getD undef = .bool m5 := hdep 7 (by decide +kernel)
    obtain ⟨cs, hcs, hsz, -⟩ := hs.y
    exact .inl (lane_store _ 42 38 rfl rfl rfl e1 e2 (by kernel_rfl) hcs (by omega) rfl rfl rfl rfl _)
  · show LaneEnd3 _ _ _ _ _ _ _
    intro a w1 hds hts hb hs hun hpr
    obtain ⟨cs, hcs, hsz, hor⟩ := hs.y
    have hY : w1.heap[w.heap.size + 1 + 1]? = some (.cells (helCs ⟨2, m1, m2, 0, 0, m5, [], ByteArray.empty, m8, 0⟩ ⟨none, 0⟩) 48 (0, 0)) := by
      have hT : cs = helCs ⟨2, m1, m2, 0, 0, m5, [], ByteArray.empty, m8, 0⟩ ⟨none, 0⟩ := by
        refine turned_all (n := 10) hsz rfl fun i hi => ?_
        rcases hor i with q | q
        · rw [q]
          match i, hi with
          | 0, _ => rfl
          | 1, _ => obtain ⟨c', h1, h2⟩ := hpr 9 (by decide +kernel); rw [hcs] at h1; cases h1; exact q.symm.trans h2
          | 2, _ => obtain ⟨c', h1, h2⟩ := hpr 11 (by decide +kernel); rw [hcs] at h1; cases h1; exact q.symm.trans h2
          | 3, _ => rfl
          | 4, _ => rfl
          | 5, _ => obtain ⟨c', h1, h2⟩ := hpr 15 (by decide +kernel); rw [hcs] at h1; cases h1; exact q.symm.trans h2
          | 6, _ => rfl
          | 7, _ => rfl
          | 8, _ => obtain ⟨c', h1, h2⟩ := hpr 13 (by decide +kernel); rw [hcs] at h1; cases h1; exact q.symm.trans h2
          | 9, _ => rfl
        · exact q
      rw [hcs, hT]
    have hs1 := hs.b
    have hs2 := hs.r
    have HB1 := Lib.hid hs1
    have HR1 := Lib.hid hs2
    have HY1 := Lib.hid hY
    have u1 := hun 1 (by decide +kernel)
    have u2 := hun 2 (by decide +kernel)
    have u3 := hun 3 (by decide +kernel)
    simp at u1 u2 u3
    have ea : a.tmps = #[a.tmps[0]?.getD undef, a.tmps[1]?.getD undef, a.tmps[2]?.getD undef, a.tmps[3]?.getD undef, a.tmps[4]?.getD undef, a.tmps[5]?.getD undef, a.tmps[6]?.getD undef, a.tmps[7]?.getD undef, a.tmps[8]?.getD undef, a.tmps[9]?.getD undef, a.tmps[10]?.getD undef, a.tmps[11]?.getD undef, a.tmps[12]?.getD undef, a.tmps[13]?.getD undef, a.tmps[14]?.getD undef, a.tmps[15]?.getD undef, a.tmps[16]?.getD undef, a.tmps[17]?.getD undef, a.tmps[18]?.getD undef, a.tmps[19]?.getD undef, a.tmps[20]?.getD undef, a.tmps[21]?.getD undef, a.tmps[22]?.getD undef, a.tmps[23]?.getD undef, a.tmps[24]?.getD undef, a.tmps[25]?.getD undef, a.tmps[26]?.getD undef, a.tmps[27]?.getD undef, a.tmps[28]?.getD undef, a.tmps[29]?.getD undef, a.tmps[30]?.getD undef, a.tmps[31]?.getD undef, a.tmps[32]?.getD undef, a.tmps[33]?.getD undef, a.tmps[34]?.getD undef, a.tmps[35]?.getD undef, a.tmps[36]?.getD undef, a.tmps[37]?.getD undef, a.tmps[38]?.getD undef, a.tmps[39]?.getD undef, a.tmps[40]?.getD undef, a.tmps[41]?.getD undef, a.tmps[42]?.getD undef, a.tmps[43]?.getD undef, a.tmps[44]?.getD undef, a.tmps[45]?.getD undef, a.tmps[46]?.getD undef, a.tmps[47]?.getD undef, a.tmps[48]?.getD undef, a.tmps[49]?.getD undef, a.tmps[50]?.getD undef, a.tmps[51]?.getD undef, a.tmps[52]?.getD undef, a.tmps[53]?.getD undef, a.tmps[54]?.getD undef, a.tmps[55]?.getD undef, a.tmps[56]?.getD undef, a.tmps[57]?.getD undef, a.tmps[58]?.getD undef, a.tmps[59]?.getD undef, a.tmps[60]?.getD undef, a.tmps[61]?.getD undef, a.tmps[62]?.getD undef, a.tmps[63]?.getD undef, a.tmps[64]?.getD undef, a.tmps[65]?.getD undef, a.tmps[66]?.getD undef, a.tmps[67]?.getD undef, a.tmps[68]?.getD undef, a.tmps[69]?.getD undef, a.tmps[70]?.getD undef] := arr_map a.tmps 71 (by simpa using hts)
    try simp only [Exit.then]
    rw [u1, u2, u3] at ea
    obtain ⟨tm, ds⟩ := a
    simp only at ea hds
    subst hds
    clear hun hpr u1 u2 u3 hts hb hs hcs hor hY hs1 hs2
    generalize tm[0]?.getD undef = q0 at ea
    generalize tm[4]?.getD undef = q4 at ea
    generalize tm[5]?.getD undef = q5 at ea
    generalize tm[6]?.getD undef = q6 at ea
    generalize tm[7]?.getD undef = q7 at ea
    generalize tm[8]?.getD undef = q8 at ea
    generalize tm[9]?.getD undef = q9 at ea
    generalize tm[10]?.getD undef = q10 at ea
    generalize tm[11]?.getD undef = q11 at ea
    generalize tm[12]?.getD undef = q12 at ea
    generalize tm[13]?.getD undef = q13 at ea
    generalize tm[14]?.getD undef = q14 at ea
    generalize tm[15]?.getD undef = q15 at ea
    generalize tm[16]?.getD undef = q16 at ea
    generalize tm[17]?.getD undef = q17 at ea
    generalize tm[18]?.getD undef = q18 at ea
    generalize tm[19]?.getD undef = q19 at ea
    generalize tm[20]?.getD undef = q20 at ea
    generalize tm[21]?.getD undef = q21 at ea
    generalize tm[22]?.getD undef = q22 at ea
    generalize tm[23]?.getD undef = q23 at ea
    generalize tm[24]?.getD undef = q24 at ea
    generalize tm[25]?.getD undef = q25 at ea
    generalize tm[26]?.getD undef = q26 at ea
    generalize tm[27]?.getD undef = q27 at ea
    generalize tm[28]?.getD undef = q28 at ea
    generalize tm[29]?.getD undef = q29 at ea
    generalize tm[30]?.getD undef = q30 at ea
    generalize tm[31]?.getD undef = q31 at ea
    generalize tm[32]?.getD undef = q32 at ea
    generalize tm[33]?.getD undef = q33 at ea
    generalize tm[34]?.getD undef = q34 at ea
    generalize tm[35]?.getD undef = q35 at ea
    generalize tm[36]?.getD undef = q36 at ea
    generalize tm[37]?.getD undef = q37 at ea
    generalize tm[38]?.getD undef = q38 at ea
    generalize tm[39]?.getD undef = q39 at ea
    generalize tm[40]?.getD undef = q40 at ea
    generalize tm[41]?.getD undef = q41 at ea
    generalize tm[42]?.getD undef = q42 at ea
    generalize tm[43]?.getD undef = q43 at ea
    generalize tm[44]?.getD undef = q44 at ea
    generalize tm[45]?.getD undef = q45 at ea
    generalize tm[46]?.getD undef = q46 at ea
    generalize tm[47]?.getD undef = q47 at ea
    generalize tm[48]?.getD undef = q48 at ea
    generalize tm[49]?.getD undef = q49 at ea
    generalize tm[50]?.getD undef = q50 at ea
    generalize tm[51]?.getD undef = q51 at ea
    generalize tm[52]?.getD undef = q52 at ea
    generalize tm[53]?.getD undef = q53 at ea
    generalize tm[54]?.getD undef = q54 at ea
    generalize tm[55]?.getD undef = q55 at ea
    generalize tm[56]?.getD undef = q56 at ea
    generalize tm[57]?.getD undef = q57 at ea
    generalize tm[58]?.getD undef = q58 at ea
    generalize tm[59]?.getD undef = q59 at ea
    generalize tm[60]?.getD undef = q60 at ea
    generalize tm[61]?.getD undef = q61 at ea
    generalize tm[62]?.getD undef = q62 at ea
    generalize tm[63]?.getD undef = q63 at ea
    generalize tm[64]?.getD undef = q64 at ea
    generalize tm[65]?.getD undef = q65 at ea
    generalize tm[66]?.getD undef = q66 at ea
    generalize tm[67]?.getD undef = q67 at ea
    generalize tm[68]?.getD undef = q68 at ea
    generalize tm[69]?.getD undef = q69 at ea
    generalize tm[70]?.getD undef = q70 at ea
    subst ea
    clear x0 x1 x2 x3 x4 x5 x6 x7 x8 x9
    have hz : HelB w1 (w.heap.size + 1 + 1) ⟨2, m1, m2, 0, 0, m5, [], ByteArray.empty, m8, 0⟩ ⟨none, 0⟩ := HY1.out
    have HRz : Hid (w1.heap[w.heap.size + 1]? = some (.cells hel0Cs 48 (0, 0))) := HR1.out
    have HBz : Hid (Below w.heap.size w w1) := HB1.out
    obtain ⟨⟨z0, z1, z2, z3, z4⟩, z5, z6, z7, z8, z9⟩ := hz.ten
    simp only [List.length_nil] at z0 z1 z2 z3 z4 z5 z6 z7 z8 z9
    clear hz
    obtain ⟨u, hu⟩ : ∃ u, u = World.setRow w1 (w.heap.size + 1) (helCs ⟨2, m1, m2, 0, 0, m5, [], ByteArray.empty, m8, 0⟩ ⟨none, 0⟩) := ⟨_, rfl⟩
    have hud : HelB u (w.heap.size + 1) ⟨2, m1, m2, 0, 0, m5, [], ByteArray.empty, m8, 0⟩ ⟨none, 0⟩ := by rw [hu]; exact setRow_heap _ _ _ _ _ _ HRz.out
    have HUB : Hid (Below w.heap.size w u) := by rw [hu]; exact below_setRow HBz.out (by omega) _
    unfold helCs at hu
    simp only [List.length_nil] at hu
    go_wp2_with (first | ((with_reducible show wpList _ _ _ (Oper.mk _ (Op.store 48 (.tmp 2) _) _ _ _ _ :: _) _ _); (refine wp_store_row rfl rfl _ _ _ rfl (w.heap.size + 1) _ _ 48 rfl rfl hel_size HRz.out rfl (by simp [Value.oneCell']) ?_)))
    rw [← hu]
    obtain ⟨⟨v0, v1, v2, v3, v4⟩, v5, v6, v7, v8, v9⟩ := hud.ten
    simp only [List.length_nil] at v0 v1 v2 v3 v4 v5 v6 v7 v8 v9
    clear hu hud z0 z1 z2 z3 z4 z5 z6 z7 z8 z9
    go_wp2_with fail
    refine bodyPost_ret (v := .agg (helCs ⟨2, m1, m2, 0, 0, m5, [], ByteArray.empty, m8, 0⟩ ⟨none, 0⟩)) (by simp [results, Tryd.results62, go_sem, v0, v1, v2, v3, v4, v5, v6, v7, v8, v9, helCs]) rfl ?_
    exact ⟨by rw [HOM.out, HOS.out]; rfl, HUB.out⟩
set_option maxHeartbeats 6400000 in
set_option maxRecDepth 100000 in
theorem only_k4 (m0 m1 m2 m3 m4 : Int) (m5 : Bool) (m6 : List Int) (m7 : ByteArray) (m8 m9 : Int) (s : HelS) (w : World) (h : m0 = 4) :
    Calls Tryd.prog 62 #[.agg (helCs ⟨m0, m1, m2, m3, m4, m5, m6, m7, m8, m9⟩ s)] w fun e w' => e = .returned (.agg (helCs (onlyM ⟨m0, m1, m2, m3, m4, m5, m6, m7, m8, m9⟩) (onlyS ⟨m0, m1, m2, m3, m4, m5, m6, m7, m8, m9⟩ s))) ∧ Below w.heap.size w w' := by
  obtain ⟨W, hW⟩ : ∃ W, W = ((w.alloc (.cells (helCs ⟨m0, m1, m2, m3, m4, m5, m6, m7, m8, m9⟩ s) 48)).alloc (.cells hel0Cs 48)).alloc (.cells (hk0Cs m0) 48) := ⟨_, rfl⟩
  have HB : Hid (Below w.heap.size w W) := by rw [hW]; exact (below_pair14 _ _).alloc (by simp; omega) _
  have hx : HelB W w.heap.size ⟨m0, m1, m2, m3, m4, m5, m6, m7, m8, m9⟩ s := by rw [hW]; exact (Below.heap_alloc _ _ _ (by simp; omega)).trans (heap_alloc2_old w _ _)
  have hr : W.heap[w.heap.size + 1]? = some (.cells hel0Cs 48 (0, 0)) := by rw [hW]; exact (Below.heap_alloc _ _ _ (by simp)).trans (heap_alloc2_new w _ _)
  have hy : W.heap[w.heap.size + 1 + 1]? = some (.cells (hk0Cs m0) 48 (0, 0)) := by
    have := heap_alloc_new ((w.alloc (.cells (helCs ⟨m0, m1, m2, m3, m4, m5, m6, m7, m8, m9⟩ s) 48)).alloc (.cells hel0Cs 48)) (.cells (hk0Cs m0) 48)
    rw [World.size_alloc, World.size_alloc] at this
    rw [hW]; exact this
  have hmix := only_hmix
  have HX := Lib.hid hx
  have HR := Lib.hid hr
  have HY := Lib.hid hy
  unfold helCs hel0Cs hk0Cs at hW
  simp only at hW
  clear hx hr hy
  subst h
  have HOM : Hid (onlyM (Hel.mk 4 m1 m2 m3 m4 m5 m6 m7 m8 m9) = ⟨4, 0, 0, m3, 0, false, [], ByteArray.empty, 0, m9⟩) := by show _ = _; simp [onlyM]
  have HOS : Hid (onlyS (Hel.mk 4 m1 m2 m3 m4 m5 m6 m7 m8 m9) s = ⟨none, 0⟩) := by show _ = _; simp [onlyS]
  obtain ⟨⟨x0, x1, x2, x3, x4⟩, x5, x6, x7, x8, x9⟩ := HX.out.ten
  unfold helCs
  simp only at x0 x1 x2 x3 x4 x5 x6 x7 x8 x9 ⊢
  go_enter Tryd.func62, Tryd.ntmps62
  go_wp2_with fail
  rw [← hW]
  go_wp2_with fail
  refine wp_lanes3 hmix (OnlyS w (Hel.mk 4 m1 m2 m3 m4 m5 m6 m7 m8 m9) s ⟨4, 0, 0, m3, 0, false, [], ByteArray.empty, 0, m9⟩ ⟨none, 0⟩) (Turns (w.heap.size + 1 + 1) 48 (helCs ⟨4, 0, 0, m3, 0, false, [], ByteArray.empty, 0, m9⟩ ⟨none, 0⟩)) (turnPR (w.heap.size + 1 + 1) 48 (helCs ⟨4, 0, 0, m3, 0, false, [], ByteArray.empty, 0, m9⟩ ⟨none, 0⟩) [.inl (.pointer (some ⟨w.heap.size, 3, none⟩)), .inl (.int .i64 m3), .inl (.pointer (some ⟨w.heap.size, 9, none⟩)), .inl (.int .i64 m9), .inl (.pointer (some ⟨w.heap.size + 1 + 1, 3, none⟩)), .inr 3, .inl (.pointer (some ⟨w.heap.size + 1 + 1, 9, none⟩)), .inr 9]) (by decide +kernel) 71 rfl (by decide +kernel) (fun _ _ _ h k => h.trans k) Turns.refl (fun _ _ => OnlyS.step) turnPR_step ⟨HB.out.drew, HX.out, HR.out, _, HY.out, rfl, fun _ => .inl rfl⟩ ?_
  refine ⟨?_, ?_, ?_, ?_, ?_, ?_, ?_, ?_, ?_⟩
  · intro a W1 hb hs hun hdep
    have e1 := hun 1 (by decide +kernel)
    simp at e1
    refine .inl ⟨rfl, ?_⟩
    unfold Oper.wp
    go_simp
    exact ⟨_, rfl, rfl, Turns.refl _⟩
  · intro a W1 hb hs hun hdep
    have e1 : a.tmps[45]?.getD undef = .pointer (some ⟨w.heap.size, 3, none⟩) := hdep 0 (by decide +kernel)
    have c1 : W1.cell? ⟨w.heap.size, 3, none⟩ = some (.int .i64 m3) := hs.x.cell 3
    refine .inl ⟨rfl, ?_⟩
    unfold Oper.wp
    go_simp
    exact ⟨_, rfl, rfl, Turns.refl _⟩
  · intro a W1 hb hs hun hdep
    have e1 := hun 1 (by decide +kernel)
    simp at e1
    refine .inl ⟨rfl, ?_⟩
    unfold Oper.wp
    go_simp
    exact ⟨_, rfl, rfl, Turns.refl _⟩
  · intro a W1 hb hs hun hdep
    have e1 : a.tmps[47]?.getD undef = .pointer (some ⟨w.heap.size, 9, none⟩) := hdep 2 (by decide +kernel)
    have c1 : W1.cell? ⟨w.heap.size, 9, none⟩ = some (.int .i64 m9) := hs.x.cell 9
    refine .inl ⟨rfl, ?_⟩
    unfold Oper.wp
    go_simp
    exact ⟨_, rfl, rfl, Turns.refl _⟩
  · intro a W1 hb hs hun hdep
    have e1 := hun 3 (by decide +kernel)
    simp at e1
    refine .inl ⟨rfl, ?_⟩
    unfold Oper.wp
    go_simp
    exact ⟨_, rfl, rfl, Turns.refl _⟩
  · intro a W1 hb hs hun hdep
    have e1 : a.tmps[49]?.getD undef = .pointer (some ⟨w.heap.size + 1 + 1, 3, none⟩) := hdep 4 (by decide +kernel)
    have e2 : a.tmps[46]?.getD undef = .int .i64 m3 := hdep 1 (by decide +kernel)
    obtain ⟨cs, hcs, hsz, -⟩ := hs.y
    exact .inl (lane_store _ 49 46 rfl rfl rfl e1 e2 (by kernel_rfl) hcs (by omega) rfl rfl rfl rfl _)
  · intro a W1 hb hs hun hdep
    have e1 := hun 3 (by decide +kernel)
    simp at e1
    refine .inl ⟨rfl, ?_⟩
    unfold Oper.wp
    go_simp
    exact ⟨_, rfl, rfl, Turns.refl _⟩
  · intro a W1 hb hs hun hdep
    have e1 : a.tmps[50]?.getD undef = .pointer (some ⟨w.heap.size + 1 + 1, 9, none⟩) := hdep 6 (by decide +kernel)
    have e2 : a.tmps[48]?.getD undef = .int .i64 m9 := hdep 3 (by decide +kernel)
    obtain ⟨cs, hcs, hsz, -⟩ := hs.y
    exact .inl (lane_store _ 50 48 rfl rfl rfl e1 e2 (by kernel_rfl) hcs (by omega) rfl rfl rfl rfl _)
  · show LaneEnd3 _ _ _ _ _ _ _
    intro a w1 hds hts hb hs hun hpr
    obtain ⟨cs, hcs, hsz, hor⟩ := hs.y
    have hY : w1.heap[w.heap.size + 1 + 1]? = some (.cells (helCs ⟨4, 0, 0, m3, 0, false, [], ByteArray.empty, 0, m9⟩ ⟨none, 0⟩) 48 (0, 0)) := by
      have hT : cs = helCs ⟨4, 0, 0, m3, 0, false, [], ByteArray.empty, 0, m9⟩ ⟨none, 0⟩ := by
        refine turned_all (n := 10) hsz rfl fun i hi => ?_
        rcases hor i with q | q
        · rw [q]
          match i, hi with
          | 0, _ => rfl
          | 1, _ => rfl
          | 2, _ => rfl
          | 3, _ => obtain ⟨c', h1, h2⟩ := hpr 5 (by decide +kernel); rw [hcs] at h1; cases h1; exact q.symm.trans h2
          | 4, _ => rfl
          | 5, _ => rfl
          | 6, _ => rfl
          | 7, _ => rfl
          | 8, _ => rfl
          | 9, _ => obtain ⟨c', h1, h2⟩ := hpr 7 (by decide +kernel); rw [hcs] at h1; cases h1; exact q.symm.trans h2
        · exact q
      rw [hcs, hT]
    have hs1 := hs.b
    have hs2 := hs.r
    have HB1 := Lib.hid hs1
    have HR1 := Lib.hid hs2
    have HY1 := Lib.hid hY
    have u1 := hun 1 (by decide +kernel)
    have u2 := hun 2 (by decide +kernel)
    have u3 := hun 3 (by decide +kernel)
    simp at u1 u2 u3
    have ea : a.tmps = #[a.tmps[0]?.getD undef, a.tmps[1]?.getD undef, a.tmps[2]?.getD undef, a.tmps[3]?.getD undef, a.tmps[4]?.getD undef, a.tmps[5]?.getD undef, a.tmps[6]?.getD undef, a.tmps[7]?.getD undef, a.tmps[8]?.getD undef, a.tmps[9]?.getD undef, a.tmps[10]?.getD undef, a.tmps[11]?.getD undef, a.tmps[12]?.getD undef, a.tmps[13]?.getD undef, a.tmps[14]?.getD undef, a.tmps[15]?.getD undef, a.tmps[16]?.getD undef, a.tmps[17]?.getD undef, a.tmps[18]?.getD undef, a.tmps[19]?.getD undef, a.tmps[20]?.getD undef, a.tmps[21]?.getD undef, a.tmps[22]?.getD undef, a.tmps[23]?.getD undef, a.tmps[24]?.getD undef, a.tmps[25]?.getD undef, a.tmps[26]?.getD undef, a.tmps[27]?.getD undef, a.tmps[28]?.getD undef, a.tmps[29]?.getD undef, a.tmps[30]?.getD undef, a.tmps[31]?.getD undef, a.tmps[32]?.getD undef, a.tmps[33]?.getD undef, a.tmps[34]?.getD undef, a.tmps[35]?.getD undef, a.tmps[36]?.getD undef, a.tmps[37]?.getD undef, a.tmps[38]?.getD undef, a.tmps[39]?.getD undef, a.tmps[40]?.getD undef, a.tmps[41]?.getD undef, a.tmps[42]?.getD undef, a.tmps[43]?.getD undef, a.tmps[44]?.getD undef, a.tmps[45]?.getD undef, a.tmps[46]?.getD undef, a.tmps[47]?.getD undef, a.tmps[48]?.getD undef, a.tmps[49]?.getD undef, a.tmps[50]?.getD undef, a.tmps[51]?.getD undef, a.tmps[52]?.getD undef, a.tmps[53]?.getD undef, a.tmps[54]?.getD undef, a.tmps[55]?.getD undef, a.tmps[56]?.getD undef, a.tmps[57]?.getD undef, a.tmps[58]?.getD undef, a.tmps[59]?.getD undef, a.tmps[60]?.getD undef, a.tmps[61]?.getD undef, a.tmps[62]?.getD undef, a.tmps[63]?.getD undef, a.tmps[64]?.getD undef, a.tmps[65]?.getD undef, a.tmps[66]?.getD undef, a.tmps[67]?.getD undef, a.tmps[68]?.getD undef, a.tmps[69]?.getD undef, a.tmps[70]?.getD undef] := arr_map a.tmps 71 (by simpa using hts)
    try simp only [Exit.then]
    rw [u1, u2, u3] at ea
    obtain ⟨tm, ds⟩ := a
    simp only at ea hds
    subst hds
    clear hun hpr u1 u2 u3 hts hb hs hcs hor hY hs1 hs2
    generalize tm[0]?.getD undef = q0 at ea
    generalize tm[4]?.getD undef = q4 at ea
    generalize tm[5]?.getD undef = q5 at ea
    generalize tm[6]?.getD undef = q6 at ea
    generalize tm[7]?.getD undef = q7 at ea
    generalize tm[8]?.getD undef = q8 at ea
    generalize tm[9]?.getD undef = q9 at ea
    generalize tm[10]?.getD undef = q10 at ea
    generalize tm[11]?.getD undef = q11 at ea
    generalize tm[12]?.getD undef = q12 at ea
    generalize tm[13]?.getD undef = q13 at ea
    generalize tm[14]?.getD undef = q14 at ea
    generalize tm[15]?.getD undef = q15 at ea
    generalize tm[16]?.getD undef = q16 at ea
    generalize tm[17]?.getD undef = q17 at ea
    generalize tm[18]?.getD undef = q18 at ea
    generalize tm[19]?.getD undef = q19 at ea
    generalize tm[20]?.getD undef = q20 at ea
    generalize tm[21]?.getD undef = q21 at ea
    generalize tm[22]?.getD undef = q22 at ea
    generalize tm[23]?.getD undef = q23 at ea
    generalize tm[24]?.getD undef = q24 at ea
    generalize tm[25]?.getD undef = q25 at ea
    generalize tm[26]?.getD undef = q26 at ea
    generalize tm[27]?.getD undef = q27 at ea
    generalize tm[28]?.getD undef = q28 at ea
    generalize tm[29]?.getD undef = q29 at ea
    generalize tm[30]?.getD undef = q30 at ea
    generalize tm[31]?.getD undef = q31 at ea
    generalize tm[32]?.getD undef = q32 at ea
    generalize tm[33]?.getD undef = q33 at ea
    generalize tm[34]?.getD undef = q34 at ea
    generalize tm[35]?.getD undef = q35 at ea
    generalize tm[36]?.getD undef = q36 at ea
    generalize tm[37]?.getD undef = q37 at ea
    generalize tm[38]?.getD undef = q38 at ea
    generalize tm[39]?.getD undef = q39 at ea
    generalize tm[40]?.getD undef = q40 at ea
    generalize tm[41]?.getD undef = q41 at ea
    generalize tm[42]?.getD undef = q42 at ea
    generalize tm[43]?.getD undef = q43 at ea
    generalize tm[44]?.getD undef = q44 at ea
    generalize tm[45]?.getD undef = q45 at ea
    generalize tm[46]?.getD undef = q46 at ea
    generalize tm[47]?.getD undef = q47 at ea
    generalize tm[48]?.getD undef = q48 at ea
    generalize tm[49]?.getD undef = q49 at ea
    generalize tm[50]?.getD undef = q50 at ea
    generalize tm[51]?.getD undef = q51 at ea
    generalize tm[52]?.getD undef = q52 at ea
    generalize tm[53]?.getD undef = q53 at ea
    generalize tm[54]?.getD undef = q54 at ea
    generalize tm[55]?.getD undef = q55 at ea
    generalize tm[56]?.getD undef = q56 at ea
    generalize tm[57]?.getD undef = q57 at ea
    generalize tm[58]?.getD undef = q58 at ea
    generalize tm[59]?.getD undef = q59 at ea
    generalize tm[60]?.getD undef = q60 at ea
    generalize tm[61]?.getD undef = q61 at ea
    generalize tm[62]?.getD undef = q62 at ea
    generalize tm[63]?.getD undef = q63 at ea
    generalize tm[64]?.getD undef = q64 at ea
    generalize tm[65]?.getD undef = q65 at ea
    generalize tm[66]?.getD undef = q66 at ea
    generalize tm[67]?.getD undef = q67 at ea
    generalize tm[68]?.getD undef = q68 at ea
    generalize tm[69]?.getD undef = q69 at ea
    generalize tm[70]?.getD undef = q70 at ea
    subst ea
    clear x0 x1 x2 x3 x4 x5 x6 x7 x8 x9
    have hz : HelB w1 (w.heap.size + 1 + 1) ⟨4, 0, 0, m3, 0, false, [], ByteArray.empty, 0, m9⟩ ⟨none, 0⟩ := HY1.out
    have HRz : Hid (w1.heap[w.heap.size + 1]? = some (.cells hel0Cs 48 (0, 0))) := HR1.out
    have HBz : Hid (Below w.heap.size w w1) := HB1.out
    obtain ⟨⟨z0, z1, z2, z3, z4⟩, z5, z6, z7, z8, z9⟩ := hz.ten
    simp only [List.length_nil] at z0 z1 z2 z3 z4 z5 z6 z7 z8 z9
    clear hz
    obtain ⟨u, hu⟩ : ∃ u, u = World.setRow w1 (w.heap.size + 1) (helCs ⟨4, 0, 0, m3, 0, false, [], ByteArray.empty, 0, m9⟩ ⟨none, 0⟩) := ⟨_, rfl⟩
    have hud : HelB u (w.heap.size + 1) ⟨4, 0, 0, m3, 0, false, [], ByteArray.empty, 0, m9⟩ ⟨none, 0⟩ := by rw [hu]; exact setRow_heap _ _ _ _ _ _ HRz.out
    have HUB : Hid (Below w.heap.size w u) := by rw [hu]; exact below_setRow HBz.out (by omega) _
    unfold helCs at hu
    simp only [List.length_nil] at hu
    go_wp2_with (first | ((with_reducible show wpList _ _ _ (Oper.mk _ (Op.store 48 (.tmp 2) _) _ _ _ _ :: _) _ _); (refine wp_store_row rfl rfl _ _ _ rfl (w.heap.size + 1) _ _ 48 rfl rfl hel_size HRz.out rfl (by simp [Value.oneCell']) ?_)))
    rw [← hu]
    obtain ⟨⟨v0, v1, v2, v3, v4⟩, v5, v6, v7, v8, v9⟩ := hud.ten
    simp only [List.length_nil] at v0 v1 v2 v3 v4 v5 v6 v7 v8 v9
    clear hu hud z0 z1 z2 z3 z4 z5 z6 z7 z8 z9
    go_wp2_with fail
    refine bodyPost_ret (v := .agg (helCs ⟨4, 0, 0, m3, 0, false, [], ByteArray.empty, 0, m9⟩ ⟨none, 0⟩)) (by simp [results, Tryd.results62, go_sem, v0, v1, v2, v3, v4, v5, v6, v7, v8, v9, helCs]) rfl ?_
    exact ⟨by rw [HOM.out, HOS.out]; rfl, HUB.out⟩
set_option maxHeartbeats 6400000 in
set_option maxRecDepth 100000 in
theorem only_k8 (m0 m1 m2 m3 m4 : Int) (m5 : Bool) (m6 : List Int) (m7 : ByteArray) (m8 m9 : Int) (s : HelS) (w : World) (h : m0 = 8) :
    Calls Tryd.prog 62 #[.agg (helCs ⟨m0, m1, m2, m3, m4, m5, m6, m7, m8, m9⟩ s)] w fun e w' => e = .returned (.agg (helCs (onlyM ⟨m0, m1, m2, m3, m4, m5, m6, m7, m8, m9⟩) (onlyS ⟨m0, m1, m2, m3, m4, m5, m6, m7, m8, m9⟩ s))) ∧ Below w.heap.size w w' := by
  obtain ⟨W, hW⟩ : ∃ W, W = ((w.alloc (.cells (helCs ⟨m0, m1, m2, m3, m4, m5, m6, m7, m8, m9⟩ s) 48)).alloc (.cells hel0Cs 48)).alloc (.cells (hk0Cs m0) 48) := ⟨_, rfl⟩
  have HB : Hid (Below w.heap.size w W) := by rw [hW]; exact (below_pair14 _ _).alloc (by simp; omega) _
  have hx : HelB W w.heap.size ⟨m0, m1, m2, m3, m4, m5, m6, m7, m8, m9⟩ s := by rw [hW]; exact (Below.heap_alloc _ _ _ (by simp; omega)).trans (heap_alloc2_old w _ _)
  have hr : W.heap[w.heap.size + 1]? = some (.cells hel0Cs 48 (0, 0)) := by rw [hW]; exact (Below.heap_alloc _ _ _ (by simp)).trans (heap_alloc2_new w _ _)
  have hy : W.heap[w.heap.size + 1 + 1]? = some (.cells (hk0Cs m0) 48 (0, 0)) := by
    have := heap_alloc_new ((w.alloc (.cells (helCs ⟨m0, m1, m2, m3, m4, m5, m6, m7, m8, m9⟩ s) 48)).alloc (.cells hel0Cs 48)) (.cells (hk0Cs m0) 48)
    rw [World.size_alloc, World.size_alloc] at this
    rw [hW]; exact this
  have hmix := only_hmix
  have HX := Lib.hid hx
  have HR := Lib.hid hr
  have HY := Lib.hid hy
  unfold helCs hel0Cs hk0Cs at hW
  simp only at hW
  clear hx hr hy
  subst h
  have HOM : Hid (onlyM (Hel.mk 8 m1 m2 m3 m4 m5 m6 m7 m8 m9) = ⟨8, 0, 0, 0, 0, m5, m6, ByteArray.empty, 0, 0⟩) := by show _ = _; simp [onlyM]
  have HOS : Hid (onlyS (Hel.mk 8 m1 m2 m3 m4 m5 m6 m7 m8 m9) s = s) := by show _ = _; simp [onlyS]
  obtain ⟨⟨x0, x1, x2, x3, x4⟩, x5, x6, x7, x8, x9⟩ := HX.out.ten
  unfold helCs
  simp only at x0 x1 x2 x3 x4 x5 x6 x7 x8 x9 ⊢
  go_enter Tryd.func62, Tryd.ntmps62
  go_wp2_with fail
  rw [← hW]
  go_wp2_with fail
  refine wp_lanes3 hmix (OnlyS w (Hel.mk 8 m1 m2 m3 m4 m5 m6 m7 m8 m9) s ⟨8, 0, 0, 0, 0, m5, m6, ByteArray.empty, 0, 0⟩ s) (Turns (w.heap.size + 1 + 1) 48 (helCs ⟨8, 0, 0, 0, 0, m5, m6, ByteArray.empty, 0, 0⟩ s)) (turnPR (w.heap.size + 1 + 1) 48 (helCs ⟨8, 0, 0, 0, 0, m5, m6, ByteArray.empty, 0, 0⟩ s) [.inl (.pointer (some ⟨w.heap.size, 5, none⟩)), .inl (.bool m5), .inl (.pointer (some ⟨w.heap.size, 6, none⟩)), .inl (.slice s.A m6.length s.c), .inl (.pointer (some ⟨w.heap.size + 1 + 1, 5, none⟩)), .inr 5, .inl (.pointer (some ⟨w.heap.size + 1 + 1, 6, none⟩)), .inr 6]) (by decide +kernel) 71 rfl (by decide +kernel) (fun _ _ _ h k => h.trans k) Turns.refl (fun _ _ => OnlyS.step) turnPR_step ⟨HB.out.drew, HX.out, HR.out, _, HY.out, rfl, fun _ => .inl rfl⟩ ?_
  refine ⟨?_, ?_, ?_, ?_, ?_, ?_, ?_, ?_, ?_⟩
  · intro a W1 hb hs hun hdep
    have e1 := hun 1 (by decide +kernel)
    simp at e1
    refine .inl ⟨rfl, ?_⟩
    unfold Oper.wp
    go_simp
    exact ⟨_, rfl, rfl, Turns.refl _⟩
  · intro a W1 hb hs hun hdep
    have e1 : a.tmps[53]?.getD undef = .pointer (some ⟨w.heap.size, 5, none⟩) := hdep 0 (by decide +kernel)
    have c1 : W1.cell? ⟨w.heap.size, 5, none⟩ = some (.bool m5) := hs.x.cell 5
    refine .inl ⟨rfl, ?_⟩
    unfold Oper.wp
    go_simp
    exact ⟨_, rfl, rfl, Turns.refl _⟩
  · intro a W1 hb hs hun hdep
    have e1 := hun 1 (by decide +kernel)
    simp at e1
    refine .inl ⟨rfl, ?_⟩
    unfold Oper.wp
    go_simp
    exact ⟨_, rfl, rfl, Turns.refl _⟩
  · intro a W1 hb hs hun hdep
    have e1 : a.tmps[55]?.getD undef = .pointer (some ⟨w.heap.size, 6, none⟩) := hdep 2 (by decide +kernel)
    have c1 : W1.cell? ⟨w.heap.size, 6, none⟩ = some (.slice s.A m6.length s.c) := hs.x.cell 6
    refine .inl ⟨rfl, ?_⟩
    unfold Oper.wp
    go_simp
    exact ⟨_, rfl, rfl, Turns.refl _⟩
  · intro a W1 hb hs hun hdep
    have e1 := hun 3 (by decide +kernel)
    simp at e1
    refine .inl ⟨rfl, ?_⟩
    unfold Oper.wp
    go_simp
    exact ⟨_, rfl, rfl, Turns.refl _⟩
  · intro a W1 hb hs hun hdep
    have e1 : a.tmps[57]?.getD undef = .pointer (some ⟨w.heap.size + 1 + 1, 5, none⟩) := hdep 4 (by decide +kernel)
    have e2 : a.tmps[54]?.getD undef = .bool m5 := hdep 1 (by decide +kernel)
    obtain ⟨cs, hcs, hsz, -⟩ := hs.y
    exact .inl (lane_store _ 57 54 rfl rfl rfl e1 e2 (by kernel_rfl) hcs (by omega) rfl rfl rfl rfl _)
  · intro a W1 hb hs hun hdep
    have e1 := hun 3 (by decide +kernel)
    simp at e1
    refine .inl ⟨rfl, ?_⟩
    unfold Oper.wp
    go_simp
    exact ⟨_, rfl, rfl, Turns.refl _⟩
  · intro a W1 hb hs hun hdep
    have e1 : a.tmps[58]?.getD undef = .pointer (some ⟨w.heap.size + 1 + 1, 6, none⟩) := hdep 6 (by decide +kernel)
    have e2 : a.tmps[56]?.getD undef = .slice s.A m6.length s.c := hdep 3 (by decide +kernel)
    obtain ⟨cs, hcs, hsz, -⟩ := hs.y
    exact .inl (lane_store _ 58 56 rfl rfl rfl e1 e2 (by kernel_rfl) hcs (by omega) rfl rfl rfl rfl _)
  · show LaneEnd3 _ _ _ _ _ _ _
    intro a w1 hds hts hb hs hun hpr
    obtain ⟨cs, hcs, hsz, hor⟩ := hs.y
    have hY : w1.heap[w.heap.size + 1 + 1]? = some (.cells (helCs ⟨8, 0, 0, 0, 0, m5, m6, ByteArray.empty, 0, 0⟩ s) 48 (0, 0)) := by
      have hT : cs = helCs ⟨8, 0, 0, 0, 0, m5, m6, ByteArray.empty, 0, 0⟩ s := by
        refine turned_all (n := 10) hsz rfl fun i hi => ?_
        rcases hor i with q | q
        · rw [q]
          match i, hi with
          | 0, _ => rfl
          | 1, _ => rfl
          | 2, _ => rfl
          | 3, _ => rfl
          | 4, _ => rfl
          | 5, _ => obtain ⟨c', h1, h2⟩ := hpr 5 (by decide +kernel); rw [hcs] at h1; cases h1; exact q.symm.trans h2
          | 6, _ => obtain ⟨c', h1, h2⟩ := hpr 7 (by decide +kernel); rw [hcs] at h1; cases h1; exact q.symm.trans h2
          | 7, _ => rfl
          | 8, _ => rfl
          | 9, _ => rfl
        · exact q
      rw [hcs, hT]
    have hs1 := hs.b
    have hs2 := hs.r
    have HB1 := Lib.hid hs1
    have HR1 := Lib.hid hs2
    have HY1 := Lib.hid hY
    have u1 := hun 1 (by decide +kernel)
    have u2 := hun 2 (by decide +kernel)
    have u3 := hun 3 (by decide +kernel)
    simp at u1 u2 u3
    have ea : a.tmps = #[a.tmps[0]?.getD undef, a.tmps[1]?.getD undef, a.tmps[2]?.getD undef, a.tmps[3]?.getD undef, a.tmps[4]?.getD undef, a.tmps[5]?.getD undef, a.tmps[6]?.getD undef, a.tmps[7]?.getD undef, a.tmps[8]?.getD undef, a.tmps[9]?.getD undef, a.tmps[10]?.getD undef, a.tmps[11]?.getD undef, a.tmps[12]?.getD undef, a.tmps[13]?.getD undef, a.tmps[14]?.getD undef, a.tmps[15]?.getD undef, a.tmps[16]?.getD undef, a.tmps[17]?.getD undef, a.tmps[18]?.getD undef, a.tmps[19]?.getD undef, a.tmps[20]?.getD undef, a.tmps[21]?.getD undef, a.tmps[22]?.getD undef, a.tmps[23]?.getD undef, a.tmps[24]?.getD undef, a.tmps[25]?.getD undef, a.tmps[26]?.getD undef, a.tmps[27]?.getD undef, a.tmps[28]?.getD undef, a.tmps[29]?.getD undef, a.tmps[30]?.getD undef, a.tmps[31]?.getD undef, a.tmps[32]?.getD undef, a.tmps[33]?.getD undef, a.tmps[34]?.getD undef, a.tmps[35]?.getD undef, a.tmps[36]?.getD undef, a.tmps[37]?.getD undef, a.tmps[38]?.getD undef, a.tmps[39]?.getD undef, a.tmps[40]?.getD undef, a.tmps[41]?.getD undef, a.tmps[42]?.getD undef, a.tmps[43]?.getD undef, a.tmps[44]?.getD undef, a.tmps[45]?.getD undef, a.tmps[46]?.getD undef, a.tmps[47]?.getD undef, a.tmps[48]?.getD undef, a.tmps[49]?.getD undef, a.tmps[50]?.getD undef, a.tmps[51]?.getD undef, a.tmps[52]?.getD undef, a.tmps[53]?.getD undef, a.tmps[54]?.getD undef, a.tmps[55]?.getD undef, a.tmps[56]?.getD undef, a.tmps[57]?.getD undef, a.tmps[58]?.getD undef, a.tmps[59]?.getD undef, a.tmps[60]?.getD undef, a.tmps[61]?.getD undef, a.tmps[62]?.getD undef, a.tmps[63]?.getD undef, a.tmps[64]?.getD undef, a.tmps[65]?.getD undef, a.tmps[66]?.getD undef, a.tmps[67]?.getD undef, a.tmps[68]?.getD undef, a.tmps[69]?.getD undef, a.tmps[70]?.getD undef] := arr_map a.tmps 71 (by simpa using hts)
    try simp only [Exit.then]
    rw [u1, u2, u3] at ea
    obtain ⟨tm, ds⟩ := a
    simp only at ea hds
    subst hds
    clear hun hpr u1 u2 u3 hts hb hs hcs hor hY hs1 hs2
    generalize tm[0]?.getD undef = q0 at ea
    generalize tm[4]?.getD undef = q4 at ea
    generalize tm[5]?.getD undef = q5 at ea
    generalize tm[6]?.getD undef = q6 at ea
    generalize tm[7]?.getD undef = q7 at ea
    generalize tm[8]?.getD undef = q8 at ea
    generalize tm[9]?.getD undef = q9 at ea
    generalize tm[10]?.getD undef = q10 at ea
    generalize tm[11]?.getD undef = q11 at ea
    generalize tm[12]?.getD undef = q12 at ea
    generalize tm[13]?.getD undef = q13 at ea
    generalize tm[14]?.getD undef = q14 at ea
    generalize tm[15]?.getD undef = q15 at ea
    generalize tm[16]?.getD undef = q16 at ea
    generalize tm[17]?.getD undef = q17 at ea
    generalize tm[18]?.getD undef = q18 at ea
    generalize tm[19]?.getD undef = q19 at ea
    generalize tm[20]?.getD undef = q20 at ea
    generalize tm[21]?.getD undef = q21 at ea
    generalize tm[22]?.getD undef = q22 at ea
    generalize tm[23]?.getD undef = q23 at ea
    generalize tm[24]?.getD undef = q24 at ea
    generalize tm[25]?.getD undef = q25 at ea
    generalize tm[26]?.getD undef = q26 at ea
    generalize tm[27]?.getD undef = q27 at ea
    generalize tm[28]?.getD undef = q28 at ea
    generalize tm[29]?.getD undef = q29 at ea
    generalize tm[30]?.getD undef = q30 at ea
    generalize tm[31]?.getD undef = q31 at ea
    generalize tm[32]?.getD undef = q32 at ea
    generalize tm[33]?.getD undef = q33 at ea
    generalize tm[34]?.getD undef = q34 at ea
    generalize tm[35]?.getD undef = q35 at ea
    generalize tm[36]?.getD undef = q36 at ea
    generalize tm[37]?.getD undef = q37 at ea
    generalize tm[38]?.getD undef = q38 at ea
    generalize tm[39]?.getD undef = q39 at ea
    generalize tm[40]?.getD undef = q40 at ea
    generalize tm[41]?.getD undef = q41 at ea
    generalize tm[42]?.getD undef = q42 at ea
    generalize tm[43]?.getD undef = q43 at ea
    generalize tm[44]?.getD undef = q44 at ea
    generalize tm[45]?.getD undef = q45 at ea
    generalize tm[46]?.getD undef = q46 at ea
    generalize tm[47]?.getD undef = q47 at ea
    generalize tm[48]?.getD undef = q48 at ea
    generalize tm[49]?.getD undef = q49 at ea
    generalize tm[50]?.getD undef = q50 at ea
    generalize tm[51]?.getD undef = q51 at ea
    generalize tm[52]?.getD undef = q52 at ea
    generalize tm[53]?.getD undef = q53 at ea
    generalize tm[54]?.getD undef = q54 at ea
    generalize tm[55]?.getD undef = q55 at ea
    generalize tm[56]?.getD undef = q56 at ea
    generalize tm[57]?.getD undef = q57 at ea
    generalize tm[58]?.getD undef = q58 at ea
    generalize tm[59]?.getD undef = q59 at ea
    generalize tm[60]?.getD undef = q60 at ea
    generalize tm[61]?.getD undef = q61 at ea
    generalize tm[62]?.getD undef = q62 at ea
    generalize tm[63]?.getD undef = q63 at ea
    generalize tm[64]?.getD undef = q64 at ea
    generalize tm[65]?.getD undef = q65 at ea
    generalize tm[66]?.getD undef = q66 at ea
    generalize tm[67]?.getD undef = q67 at ea
    generalize tm[68]?.getD undef = q68 at ea
    generalize tm[69]?.getD undef = q69 at ea
    generalize tm[70]?.getD undef = q70 at ea
    subst ea
    clear x0 x1 x2 x3 x4 x5 x6 x7 x8 x9
    have hz : HelB w1 (w.heap.size + 1 + 1) ⟨8, 0, 0, 0, 0, m5, m6, ByteArray.empty, 0, 0⟩ s := HY1.out
    have HRz : Hid (w1.heap[w.heap.size + 1]? = some (.cells hel0Cs 48 (0, 0))) := HR1.out
    have HBz : Hid (Below w.heap.size w w1) := HB1.out
    obtain ⟨⟨z0, z1, z2, z3, z4⟩, z5, z6, z7, z8, z9⟩ := hz.ten
    simp only [List.length_nil] at z0 z1 z2 z3 z4 z5 z6 z7 z8 z9
    clear hz
    obtain ⟨u, hu⟩ : ∃ u, u = World.setRow w1 (w.heap.size + 1) (helCs ⟨8, 0, 0, 0, 0, m5, m6, ByteArray.empty, 0, 0⟩ s) := ⟨_, rfl⟩
    have hud : HelB u (w.heap.size + 1) ⟨8, 0, 0, 0, 0, m5, m6, ByteArray.empty, 0, 0⟩ s := by rw [hu]; exact setRow_heap _ _ _ _ _ _ HRz.out
    have HUB : Hid (Below w.heap.size w u) := by rw [hu]; exact below_setRow HBz.out (by omega) _
    unfold helCs at hu
    simp only [List.length_nil] at hu
    go_wp2_with (first | ((with_reducible show wpList _ _ _ (Oper.mk _ (Op.store 48 (.tmp 2) _) _ _ _ _ :: _) _ _); (refine wp_store_row rfl rfl _ _ _ rfl (w.heap.size + 1) _ _ 48 rfl rfl hel_size HRz.out rfl (by simp [Value.oneCell']) ?_)))
    rw [← hu]
    obtain ⟨⟨v0, v1, v2, v3, v4⟩, v5, v6, v7, v8, v9⟩ := hud.ten
    simp only [List.length_nil] at v0 v1 v2 v3 v4 v5 v6 v7 v8 v9
    clear hu hud z0 z1 z2 z3 z4 z5 z6 z7 z8 z9
    go_wp2_with fail
    refine bodyPost_ret (v := .agg (helCs ⟨8, 0, 0, 0, 0, m5, m6, ByteArray.empty, 0, 0⟩ s)) (by simp [results, Tryd.results62, go_sem, v0, v1, v2, v3, v4, v5, v6, v7, v8, v9, helCs]) rfl ?_
    exact ⟨by rw [HOM.out, HOS.out]; rfl, HUB.out⟩
set_option maxHeartbeats 6400000 in
set_option maxRecDepth 100000 in
theorem only_k11 (m0 m1 m2 m3 m4 : Int) (m5 : Bool) (m6 : List Int) (m7 : ByteArray) (m8 m9 : Int) (s : HelS) (w : World) (h : m0 = 11) :
    Calls Tryd.prog 62 #[.agg (helCs ⟨m0, m1, m2, m3, m4, m5, m6, m7, m8, m9⟩ s)] w fun e w' => e = .returned (.agg (helCs (onlyM ⟨m0, m1, m2, m3, m4, m5, m6, m7, m8, m9⟩) (onlyS ⟨m0, m1, m2, m3, m4, m5, m6, m7, m8, m9⟩ s))) ∧ Below w.heap.size w w' := by
  obtain ⟨W, hW⟩ : ∃ W, W = ((w.alloc (.cells (helCs ⟨m0, m1, m2, m3, m4, m5, m6, m7, m8, m9⟩ s) 48)).alloc (.cells hel0Cs 48)).alloc (.cells (hk0Cs m0) 48) := ⟨_, rfl⟩
  have HB : Hid (Below w.heap.size w W) := by rw [hW]; exact (below_pair14 _ _).alloc (by simp; omega) _
  have hx : HelB W w.heap.size ⟨m0, m1, m2, m3, m4, m5, m6, m7, m8, m9⟩ s := by rw [hW]; exact (Below.heap_alloc _ _ _ (by simp; omega)).trans (heap_alloc2_old w _ _)
  have hr : W.heap[w.heap.size + 1]? = some (.cells hel0Cs 48 (0, 0)) := by rw [hW]; exact (Below.heap_alloc _ _ _ (by simp)).trans (heap_alloc2_new w _ _)
  have hy : W.heap[w.heap.size + 1 + 1]? = some (.cells (hk0Cs m0) 48 (0, 0)) := by
    have := heap_alloc_new ((w.alloc (.cells (helCs ⟨m0, m1, m2, m3, m4, m5, m6, m7, m8, m9⟩ s) 48)).alloc (.cells hel0Cs 48)) (.cells (hk0Cs m0) 48)
    rw [World.size_alloc, World.size_alloc] at this
    rw [hW]; exact this
  have hmix := only_hmix
  have HX := Lib.hid hx
  have HR := Lib.hid hr
  have HY := Lib.hid hy
  unfold helCs hel0Cs hk0Cs at hW
  simp only at hW
  clear hx hr hy
  subst h
  have HOM : Hid (onlyM (Hel.mk 11 m1 m2 m3 m4 m5 m6 m7 m8 m9) = ⟨11, 0, 0, 0, 0, false, [], m7, 0, 0⟩) := by show _ = _; simp [onlyM]
  have HOS : Hid (onlyS (Hel.mk 11 m1 m2 m3 m4 m5 m6 m7 m8 m9) s = ⟨none, 0⟩) := by show _ = _; simp [onlyS]
  obtain ⟨⟨x0, x1, x2, x3, x4⟩, x5, x6, x7, x8, x9⟩ := HX.out.ten
  unfold helCs
  simp only at x0 x1 x2 x3 x4 x5 x6 x7 x8 x9 ⊢
  go_enter Tryd.func62, Tryd.ntmps62
  have HB1 := HB
  have HR1 := HR
  have HY1 : Hid (W.heap[w.heap.size + 1 + 1]? = some (.cells (hk0Cs 11) 48 (0, 0))) := HY.out
  subst hW
  go_wp2_with (first | (((with_reducible show wpList _ _ _ (Oper.mk _ (Op.store _ (.tmp 63) _) _ _ _ _ :: _) _ _)); (refine wp_store_cell rfl rfl _ _ _ rfl (w.heap.size + 1 + 1) 7 _ _ _ rfl rfl (by kernel_rfl) (HY1.out) (by simp [hk0Cs]) rfl rfl ?_); (intro w63 h63 b63 o63); (have G63 := Lib.hid h63); (have B63 : Hid (Below w.heap.size w w63) := Below.trans (HB1.out) (b63.mono (by omega))); (have R63 : Hid (w63.heap[w.heap.size + 1]? = some (.cells hel0Cs 48 (0, 0))) := (o63 _ (by omega)).trans (HR1.out)); (clear h63 b63 o63); (have hz : HelB w63 (w.heap.size + 1 + 1) ⟨11, 0, 0, 0, 0, false, [], m7, 0, 0⟩ ⟨none, 0⟩ := G63.out); (have HRz : Hid (w63.heap[w.heap.size + 1]? = some (.cells hel0Cs 48 (0, 0))) := R63.out); (have HBz : Hid (Below w.heap.size w w63) := B63.out); (obtain ⟨⟨z0, z1, z2, z3, z4⟩, z5, z6, z7, z8, z9⟩ := hz.ten); (simp only [List.length_nil] at z0 z1 z2 z3 z4 z5 z6 z7 z8 z9); (clear hz)) | ((with_reducible show wpList _ _ _ (Oper.mk _ (Op.store 48 (.tmp 2) _) _ _ _ _ :: _) _ _); (refine wp_store_row rfl rfl _ _ _ rfl (w.heap.size + 1) _ _ 48 rfl rfl hel_size HRz.out rfl (by simp [Value.oneCell']) ?_)))
  obtain ⟨u, hu⟩ : ∃ u, u = World.setRow w63 (w.heap.size + 1) (helCs ⟨11, 0, 0, 0, 0, false, [], m7, 0, 0⟩ ⟨none, 0⟩) := ⟨_, rfl⟩
  have hud : HelB u (w.heap.size + 1) ⟨11, 0, 0, 0, 0, false, [], m7, 0, 0⟩ ⟨none, 0⟩ := by rw [hu]; exact setRow_heap _ _ _ _ _ _ HRz.out
  have HUB : Hid (Below w.heap.size w u) := by rw [hu]; exact below_setRow HBz.out (by omega) _
  unfold helCs at hu
  simp only [List.length_nil] at hu
  rw [← hu]
  obtain ⟨⟨v0, v1, v2, v3, v4⟩, v5, v6, v7, v8, v9⟩ := hud.ten
  simp only [List.length_nil] at v0 v1 v2 v3 v4 v5 v6 v7 v8 v9
  clear hu hud z0 z1 z2 z3 z4 z5 z6 z7 z8 z9
  go_wp2_with fail
  refine bodyPost_ret (v := .agg (helCs ⟨11, 0, 0, 0, 0, false, [], m7, 0, 0⟩ ⟨none, 0⟩)) (by simp [results, Tryd.results62, go_sem, v0, v1, v2, v3, v4, v5, v6, v7, v8, v9, helCs]) rfl ?_
  exact ⟨by rw [HOM.out, HOS.out]; rfl, HUB.out⟩
set_option maxHeartbeats 6400000 in
set_option maxRecDepth 100000 in
theorem only_k15 (m0 m1 m2 m3 m4 : Int) (m5 : Bool) (m6 : List Int) (m7 : ByteArray) (m8 m9 : Int) (s : HelS) (w : World) (h : m0 = 15) :
    Calls Tryd.prog 62 #[.agg (helCs ⟨m0, m1, m2, m3, m4, m5, m6, m7, m8, m9⟩ s)] w fun e w' => e = .returned (.agg (helCs (onlyM ⟨m0, m1, m2, m3, m4, m5, m6, m7, m8, m9⟩) (onlyS ⟨m0, m1, m2, m3, m4, m5, m6, m7, m8, m9⟩ s))) ∧ Below w.heap.size w w' := by
  obtain ⟨W, hW⟩ : ∃ W, W = ((w.alloc (.cells (helCs ⟨m0, m1, m2, m3, m4, m5, m6, m7, m8, m9⟩ s) 48)).alloc (.cells hel0Cs 48)).alloc (.cells (hk0Cs m0) 48) := ⟨_, rfl⟩
  have HB : Hid (Below w.heap.size w W) := by rw [hW]; exact (below_pair14 _ _).alloc (by simp; omega) _
  have hx : HelB W w.heap.size ⟨m0, m1, m2, m3, m4, m5, m6, m7, m8, m9⟩ s := by rw [hW]; exact (Below.heap_alloc _ _ _ (by simp; omega)).trans (heap_alloc2_old w _ _)
  have hr : W.heap[w.heap.size + 1]? = some (.cells hel0Cs 48 (0, 0)) := by rw [hW]; exact (Below.heap_alloc _ _ _ (by simp)).trans (heap_alloc2_new w _ _)
  have hy : W.heap[w.heap.size + 1 + 1]? = some (.cells (hk0Cs m0) 48 (0, 0)) := by
    have := heap_alloc_new ((w.alloc (.cells (helCs ⟨m0, m1, m2, m3, m4, m5, m6, m7, m8, m9⟩ s) 48)).alloc (.cells hel0Cs 48)) (.cells (hk0Cs m0) 48)
    rw [World.size_alloc, World.size_alloc] at this
    rw [hW]; exact this
  have hmix := only_hmix
  have HX := Lib.hid hx
  have HR := Lib.hid hr
  have HY := Lib.hid hy
  unfold helCs hel0Cs hk0Cs at hW
  simp only at hW
  clear hx hr hy
  subst h
  have HOM : Hid (onlyM (Hel.mk 15 m1 m2 m3 m4 m5 m6 m7 m8 m9) = ⟨15, 0, 0, 0, m4, false, [], ByteArray.empty, 0, 0⟩) := by show _ = _; simp [onlyM]
  have HOS : Hid (onlyS (Hel.mk 15 m1 m2 m3 m4 m5 m6 m7 m8 m9) s = ⟨none, 0⟩) := by show _ = _; simp [onlyS]
  obtain ⟨⟨x0, x1, x2, x3, x4⟩, x5, x6, x7, x8, x9⟩ := HX.out.ten
  unfold helCs
  simp only at x0 x1 x2 x3 x4 x5 x6 x7 x8 x9 ⊢
  go_enter Tryd.func62, Tryd.ntmps62
  have HB1 := HB
  have HR1 := HR
  have HY1 : Hid (W.heap[w.heap.size + 1 + 1]? = some (.cells (hk0Cs 15) 48 (0, 0))) := HY.out
  subst hW
  go_wp2_with (first | (((with_reducible show wpList _ _ _ (Oper.mk _ (Op.store _ (.tmp 69) _) _ _ _ _ :: _) _ _)); (refine wp_store_cell rfl rfl _ _ _ rfl (w.heap.size + 1 + 1) 4 _ _ _ rfl rfl (by kernel_rfl) (HY1.out) (by simp [hk0Cs]) rfl rfl ?_); (intro w69 h69 b69 o69); (have G69 := Lib.hid h69); (have B69 : Hid (Below w.heap.size w w69) := Below.trans (HB1.out) (b69.mono (by omega))); (have R69 : Hid (w69.heap[w.heap.size + 1]? = some (.cells hel0Cs 48 (0, 0))) := (o69 _ (by omega)).trans (HR1.out)); (clear h69 b69 o69); (have hz : HelB w69 (w.heap.size + 1 + 1) ⟨15, 0, 0, 0, m4, false, [], ByteArray.empty, 0, 0⟩ ⟨none, 0⟩ := G69.out); (have HRz : Hid (w69.heap[w.heap.size + 1]? = some (.cells hel0Cs 48 (0, 0))) := R69.out); (have HBz : Hid (Below w.heap.size w w69) := B69.out); (obtain ⟨⟨z0, z1, z2, z3, z4⟩, z5, z6, z7, z8, z9⟩ := hz.ten); (simp only [List.length_nil] at z0 z1 z2 z3 z4 z5 z6 z7 z8 z9); (clear hz)) | ((with_reducible show wpList _ _ _ (Oper.mk _ (Op.store 48 (.tmp 2) _) _ _ _ _ :: _) _ _); (refine wp_store_row rfl rfl _ _ _ rfl (w.heap.size + 1) _ _ 48 rfl rfl hel_size HRz.out rfl (by simp [Value.oneCell']) ?_)))
  obtain ⟨u, hu⟩ : ∃ u, u = World.setRow w69 (w.heap.size + 1) (helCs ⟨15, 0, 0, 0, m4, false, [], ByteArray.empty, 0, 0⟩ ⟨none, 0⟩) := ⟨_, rfl⟩
  have hud : HelB u (w.heap.size + 1) ⟨15, 0, 0, 0, m4, false, [], ByteArray.empty, 0, 0⟩ ⟨none, 0⟩ := by rw [hu]; exact setRow_heap _ _ _ _ _ _ HRz.out
  have HUB : Hid (Below w.heap.size w u) := by rw [hu]; exact below_setRow HBz.out (by omega) _
  unfold helCs at hu
  simp only [List.length_nil] at hu
  rw [← hu]
  obtain ⟨⟨v0, v1, v2, v3, v4⟩, v5, v6, v7, v8, v9⟩ := hud.ten
  simp only [List.length_nil] at v0 v1 v2 v3 v4 v5 v6 v7 v8 v9
  clear hu hud z0 z1 z2 z3 z4 z5 z6 z7 z8 z9
  go_wp2_with fail
  refine bodyPost_ret (v := .agg (helCs ⟨15, 0, 0, 0, m4, false, [], ByteArray.empty, 0, 0⟩ ⟨none, 0⟩)) (by simp [results, Tryd.results62, go_sem, v0, v1, v2, v3, v4, v5, v6, v7, v8, v9, helCs]) rfl ?_
  exact ⟨by rw [HOM.out, HOS.out]; rfl, HUB.out⟩
set_option maxHeartbeats 6400000 in
set_option maxRecDepth 100000 in
theorem only_k20 (m0 m1 m2 m3 m4 : Int) (m5 : Bool) (m6 : List Int) (m7 : ByteArray) (m8 m9 : Int) (s : HelS) (w : World) (h : m0 = 20) :
    Calls Tryd.prog 62 #[.agg (helCs ⟨m0, m1, m2, m3, m4, m5, m6, m7, m8, m9⟩ s)] w fun e w' => e = .returned (.agg (helCs (onlyM ⟨m0, m1, m2, m3, m4, m5, m6, m7, m8, m9⟩) (onlyS ⟨m0, m1, m2, m3, m4, m5, m6, m7, m8, m9⟩ s))) ∧ Below w.heap.size w w' := by
  obtain ⟨W, hW⟩ : ∃ W, W = ((w.alloc (.cells (helCs ⟨m0, m1, m2, m3, m4, m5, m6, m7, m8, m9⟩ s) 48)).alloc (.cells hel0Cs 48)).alloc (.cells (hk0Cs m0) 48) := ⟨_, rfl⟩
  have HB : Hid (Below w.heap.size w W) := by rw [hW]; exact (below_pair14 _ _).alloc (by simp; omega) _
  have hx : HelB W w.heap.size ⟨m0, m1, m2, m3, m4, m5, m6, m7, m8, m9⟩ s := by rw [hW]; exact (Below.heap_alloc _ _ _ (by simp; omega)).trans (heap_alloc2_old w _ _)
  have hr : W.heap[w.heap.size + 1]? = some (.cells hel0Cs 48 (0, 0)) := by rw [hW]; exact (Below.heap_alloc _ _ _ (by simp)).trans (heap_alloc2_new w _ _)
  have hy : W.heap[w.heap.size + 1 + 1]? = some (.cells (hk0Cs m0) 48 (0, 0)) := by
    have := heap_alloc_new ((w.alloc (.cells (helCs ⟨m0, m1, m2, m3, m4, m5, m6, m7, m8, m9⟩ s) 48)).alloc (.cells hel0Cs 48)) (.cells (hk0Cs m0) 48)
    rw [World.size_alloc, World.size_alloc] at this
    rw [hW]; exact this
  have hmix := only_hmix
  have HX := Lib.hid hx
  have HR := Lib.hid hr
  have HY := Lib.hid hy
  unfold helCs hel0Cs hk0Cs at hW
  simp only at hW
  clear hx hr hy
  subst h
  have HOM : Hid (onlyM (Hel.mk 20 m1 m2 m3 m4 m5 m6 m7 m8 m9) = ⟨20, 0, 0, 0, m4, false, [], ByteArray.empty, 0, 0⟩) := by show _ = _; simp [onlyM]
  have HOS : Hid (onlyS (Hel.mk 20 m1 m2 m3 m4 m5 m6 m7 m8 m9) s = ⟨none, 0⟩) := by show _ = _; simp [onlyS]
  obtain ⟨⟨x0, x1, x2, x3, x4⟩, x5, x6, x7, x8, x9⟩ := HX.out.ten
  unfold helCs
  simp only at x0 x1 x2 x3 x4 x5 x6 x7 x8 x9 ⊢
  go_enter Tryd.func62, Tryd.ntmps62
  have HB1 := HB
  have HR1 := HR
  have HY1 : Hid (W.heap[w.heap.size + 1 + 1]? = some (.cells (hk0Cs 20) 48 (0, 0))) := HY.out
  subst hW
  go_wp2_with (first | (((with_reducible show wpList _ _ _ (Oper.mk _ (Op.store _ (.tmp 69) _) _ _ _ _ :: _) _ _)); (refine wp_store_cell rfl rfl _ _ _ rfl (w.heap.size + 1 + 1) 4 _ _ _ rfl rfl (by kernel_rfl) (HY1.out) (by simp [hk0Cs]) rfl rfl ?_); (intro w69 h69 b69 o69); (have G69 := Lib.hid h69); (have B69 : Hid (Below w.heap.size w w69) := Below.trans (HB1.out) (b69.mono (by omega))); (have R69 : Hid (w69.heap[w.heap.size + 1]? = some (.cells hel0Cs 48 (0, 0))) := (o69 _ (by omega)).trans (HR1.out)); (clear h69 b69 o69); (have hz : HelB w69 (w.heap.size + 1 + 1) ⟨20, 0, 0, 0, m4, false, [], ByteArray.empty, 0, 0⟩ ⟨none, 0⟩ := G69.out); (have HRz : Hid (w69.heap[w.heap.size + 1]? = some (.cells hel0Cs 48 (0, 0))) := R69.out); (have HBz : Hid (Below w.heap.size w w69) := B69.out); (obtain ⟨⟨z0, z1, z2, z3, z4⟩, z5, z6, z7, z8, z9⟩ := hz.ten); (simp only [List.length_nil] at z0 z1 z2 z3 z4 z5 z6 z7 z8 z9); (clear hz)) | ((with_reducible show wpList _ _ _ (Oper.mk _ (Op.store 48 (.tmp 2) _) _ _ _ _ :: _) _ _); (refine wp_store_row rfl rfl _ _ _ rfl (w.heap.size + 1) _ _ 48 rfl rfl hel_size HRz.out rfl (by simp [Value.oneCell']) ?_)))
  obtain ⟨u, hu⟩ : ∃ u, u = World.setRow w69 (w.heap.size + 1) (helCs ⟨20, 0, 0, 0, m4, false, [], ByteArray.empty, 0, 0⟩ ⟨none, 0⟩) := ⟨_, rfl⟩
  have hud : HelB u (w.heap.size + 1) ⟨20, 0, 0, 0, m4, false, [], ByteArray.empty, 0, 0⟩ ⟨none, 0⟩ := by rw [hu]; exact setRow_heap _ _ _ _ _ _ HRz.out
  have HUB : Hid (Below w.heap.size w u) := by rw [hu]; exact below_setRow HBz.out (by omega) _
  unfold helCs at hu
  simp only [List.length_nil] at hu
  rw [← hu]
  obtain ⟨⟨v0, v1, v2, v3, v4⟩, v5, v6, v7, v8, v9⟩ := hud.ten
  simp only [List.length_nil] at v0 v1 v2 v3 v4 v5 v6 v7 v8 v9
  clear hu hud z0 z1 z2 z3 z4 z5 z6 z7 z8 z9
  go_wp2_with fail
  refine bodyPost_ret (v := .agg (helCs ⟨20, 0, 0, 0, m4, false, [], ByteArray.empty, 0, 0⟩ ⟨none, 0⟩)) (by simp [results, Tryd.results62, go_sem, v0, v1, v2, v3, v4, v5, v6, v7, v8, v9, helCs]) rfl ?_
  exact ⟨by rw [HOM.out, HOS.out]; rfl, HUB.out⟩
set_option maxHeartbeats 6400000 in
set_option maxRecDepth 100000 in
theorem only_ko (m0 m1 m2 m3 m4 : Int) (m5 : Bool) (m6 : List Int) (m7 : ByteArray) (m8 m9 : Int) (s : HelS) (w : World) (h1 : m0 ≠ 1) (h2 : m0 ≠ 2) (h4 : m0 ≠ 4) (h8 : m0 ≠ 8) (h11 : m0 ≠ 11) (h15 : m0 ≠ 15) (h20 : m0 ≠ 20) :
    Calls Tryd.prog 62 #[.agg (helCs ⟨m0, m1, m2, m3, m4, m5, m6, m7, m8, m9⟩ s)] w fun e w' => e = .returned (.agg (helCs (onlyM ⟨m0, m1, m2, m3, m4, m5, m6, m7, m8, m9⟩) (onlyS ⟨m0, m1, m2, m3, m4, m5, m6, m7, m8, m9⟩ s))) ∧ Below w.heap.size w w' := by
  obtain ⟨W, hW⟩ : ∃ W, W = ((w.alloc (.cells (helCs ⟨m0, m1, m2, m3, m4, m5, m6, m7, m8, m9⟩ s) 48)).alloc (.cells hel0Cs 48)).alloc (.cells (hk0Cs m0) 48) := ⟨_, rfl⟩
  have HB : Hid (Below w.heap.size w W) := by rw [hW]; exact (below_pair14 _ _).alloc (by simp; omega) _
  have hx : HelB W w.heap.size ⟨m0, m1, m2, m3, m4, m5, m6, m7, m8, m9⟩ s := by rw [hW]; exact (Below.heap_alloc _ _ _ (by simp; omega)).trans (heap_alloc2_old w _ _)
  have hr : W.heap[w.heap.size + 1]? = some (.cells hel0Cs 48 (0, 0)) := by rw [hW]; exact (Below.heap_alloc _ _ _ (by simp)).trans (heap_alloc2_new w _ _)
  have hy : W.heap[w.heap.size + 1 + 1]? = some (.cells (hk0Cs m0) 48 (0, 0)) := by
    have := heap_alloc_new ((w.alloc (.cells (helCs ⟨m0, m1, m2, m3, m4, m5, m6, m7, m8, m9⟩ s) 48)).alloc (.cells hel0Cs 48)) (.cells (hk0Cs m0) 48)
    rw [World.size_alloc, World.size_alloc] at this
    rw [hW]; exact this
  have hmix := only_hmix
  have HX := Lib.hid hx
  have HR := Lib.hid hr
  have HY := Lib.hid hy
  unfold helCs hel0Cs hk0Cs at hW
  simp only at hW
  clear hx hr hy
  have HOM : Hid (onlyM (Hel.mk m0 m1 m2 m3 m4 m5 m6 m7 m8 m9) = ⟨m0, 0, 0, 0, 0, false, [], ByteArray.empty, 0, 0⟩) := by show _ = _; simp [onlyM, hel0, h1, h2, h4, h8, h11, h15, h20]
  have HOS : Hid (onlyS (Hel.mk m0 m1 m2 m3 m4 m5 m6 m7 m8 m9) s = ⟨none, 0⟩) := by show _ = _; simp [onlyS, h1, h8]
  have k1 : (m0 == 1) = false := by simp [h1]
  have k2 : (m0 == 2) = false := by simp [h2]
  have k4 : (m0 == 4) = false := by simp [h4]
  have k8 : (m0 == 8) = false := by simp [h8]
  have k11 : (m0 == 11) = false := by simp [h11]
  have k15 : (m0 == 15) = false := by simp [h15]
  have k20 : (m0 == 20) = false := by simp [h20]
  obtain ⟨⟨x0, x1, x2, x3, x4⟩, x5, x6, x7, x8, x9⟩ := HX.out.ten
  unfold helCs
  simp only at x0 x1 x2 x3 x4 x5 x6 x7 x8 x9 ⊢
  clear h1 h2 h4 h8 h11 h15 h20
  go_enter Tryd.func62, Tryd.ntmps62
  have HB1 := HB
  have HR1 := HR
  have HY1 : Hid (W.heap[w.heap.size + 1 + 1]? = some (.cells (hk0Cs m0) 48 (0, 0))) := HY.out
  have hz : HelB W (w.heap.size + 1 + 1) ⟨m0, 0, 0, 0, 0, false, [], ByteArray.empty, 0, 0⟩ ⟨none, 0⟩ := HY1.out
  have HRz : Hid (W.heap[w.heap.size + 1]? = some (.cells hel0Cs 48 (0, 0))) := HR1.out
  have HBz : Hid (Below w.heap.size w W) := HB1.out
  obtain ⟨⟨z0, z1, z2, z3, z4⟩, z5, z6, z7, z8, z9⟩ := hz.ten
  simp only [List.length_nil] at z0 z1 z2 z3 z4 z5 z6 z7 z8 z9
  clear hz
  obtain ⟨u, hu⟩ : ∃ u, u = World.setRow W (w.heap.size + 1) (helCs ⟨m0, 0, 0, 0, 0, false, [], ByteArray.empty, 0, 0⟩ ⟨none, 0⟩) := ⟨_, rfl⟩
  have hud : HelB u (w.heap.size + 1) ⟨m0, 0, 0, 0, 0, false, [], ByteArray.empty, 0, 0⟩ ⟨none, 0⟩ := by rw [hu]; exact setRow_heap _ _ _ _ _ _ HRz.out
  have HUB : Hid (Below w.heap.size w u) := by rw [hu]; exact below_setRow HBz.out (by omega) _
  unfold helCs at hu
  simp only [List.length_nil] at hu
  subst hW
  go_wp2_with (first | ((with_reducible show wpList _ _ _ (Oper.mk _ (Op.store 48 (.tmp 2) _) _ _ _ _ :: _) _ _); (refine wp_store_row rfl rfl _ _ _ rfl (w.heap.size + 1) _ _ 48 rfl rfl hel_size HRz.out rfl (by simp [Value.oneCell']) ?_)))
  rw [← hu]
  obtain ⟨⟨v0, v1, v2, v3, v4⟩, v5, v6, v7, v8, v9⟩ := hud.ten
  simp only [List.length_nil] at v0 v1 v2 v3 v4 v5 v6 v7 v8 v9
  clear hu hud z0 z1 z2 z3 z4 z5 z6 z7 z8 z9
  go_wp2_with fail
  refine bodyPost_ret (v := .agg (helCs ⟨m0, 0, 0, 0, 0, false, [], ByteArray.empty, 0, 0⟩ ⟨none, 0⟩)) (by simp [results, Tryd.results62, go_sem, v0, v1, v2, v3, v4, v5, v6, v7, v8, v9, helCs]) rfl ?_
  exact ⟨by rw [HOM.out, HOS.out]; rfl, HUB.out⟩
theorem only_any (m : Hel) (s : HelS) (w : World) :
    Calls Tryd.prog 62 #[.agg (helCs m s)] w fun e w' => e = .returned (.agg (helCs (onlyM m) (onlyS m s))) ∧ Below w.heap.size w w' := by
  obtain ⟨m0, m1, m2, m3, m4, m5, m6, m7, m8, m9⟩ := m
  by_cases h1 : m0 = 1
  · exact only_k1 m0 m1 m2 m3 m4 m5 m6 m7 m8 m9 s w h1
  by_cases h2 : m0 = 2
  · exact only_k2 m0 m1 m2 m3 m4 m5 m6 m7 m8 m9 s w h2
  by_cases h4 : m0 = 4
  · exact only_k4 m0 m1 m2 m3 m4 m5 m6 m7 m8 m9 s w h4
  by_cases h8 : m0 = 8
  · exact only_k8 m0 m1 m2 m3 m4 m5 m6 m7 m8 m9 s w h8
  by_cases h11 : m0 = 11
  · exact only_k11 m0 m1 m2 m3 m4 m5 m6 m7 m8 m9 s w h11
  by_cases h15 : m0 = 15
  · exact only_k15 m0 m1 m2 m3 m4 m5 m6 m7 m8 m9 s w h15
  by_cases h20 : m0 = 20
  · exact only_k20 m0 m1 m2 m3 m4 m5 m6 m7 m8 m9 s w h20
  · exact only_ko m0 m1 m2 m3 m4 m5 m6 m7 m8 m9 s w h1 h2 h4 h8 h11 h15 h20
end Go.Proofs.YtbfgoojpbhlboaaDoor
