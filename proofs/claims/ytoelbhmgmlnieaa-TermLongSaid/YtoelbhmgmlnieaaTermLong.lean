/- The walk of TermLong. No condition. -/
import Derived.Test.YtoelbhmgmlnieaaAwake2
set_option linter.unusedVariables false
set_option linter.unusedSimpArgs false
namespace Go.Proofs.Ytoelbhmgmlnieaa
open Go Go.RowKit Go.WideMaps

theorem addT_pos {T : List Nd} {n : Nd} (h : T.length < 65536) : 1 ≤ (addT T n).2 := by
  unfold addT
  split
  · simp; omega
  · rw [if_neg (by omega)]; simp; omega
theorem addT_len {T : List Nd} {n : Nd} : (addT T n).1.length ≤ T.length + 1 := by
  unfold addT
  split
  · simp
  · split <;> simp
theorem addT_sub {T : List Nd} {n : Nd} : ∃ R, (addT T n).1 = T ++ R := by
  unfold addT
  split
  · exact ⟨[], by simp⟩
  · split
    · exact ⟨[], by simp⟩
    · exact ⟨[n], rfl⟩
theorem made_one (z : Value) (n : Nat) : (madeCells #[z] n).toList = List.replicate n z := by
  apply List.ext_getElem?
  intro k
  simp only [madeCells, Array.toList_map, Array.toList_range, List.getElem?_map, List.getElem?_range, List.getElem?_replicate]
  by_cases h : k < n
  · simp [h, Nat.mod_one]
  · simp [h]
theorem run_make_u8 (w : World) (n : Nat) (hn : n ≤ 1000000) : ∃ w', (Instr.makeSlice 22 (.int .i64 n) (.int .i64 n)).run Try.prog w = .ok (.slice (some ⟨w.heap.size, 0, none⟩) n n) w' ∧
    OwnI w' w.heap.size .u8 (.slice (some ⟨w.heap.size, 0, none⟩) n n) (List.replicate n 0) ∧ Below w.heap.size w w' := by
  obtain ⟨i, hi, hz0, hz1, hz2⟩ := info_parts info_u8
  have h := run_make (P := Try.prog) w 22 5 i _ Try.underlying22 hi hz0 .i64 .i64 n n (by omega) (by omega) (by rw [hz2]; omega) (by omega)
  simp only [Int.toNat_natCast, hz1, Nat.mul_one] at h
  refine ⟨_, h, OwnI.new (t := 5) (heap_alloc_new w _) (Nat.le_refl _) (by decide) (by simp) (Nat.le_refl _) ?_ (by omega) ?_, below_new _⟩
  · rw [size_madeCells]; exact Nat.le_refl _
  · rw [show (Value.int .u8 0).cells = #[.int .u8 0] from rfl, made_one, List.take_of_length_le (by simp), List.map_replicate]
theorem wp_make_u8 {w : World} {ops : Array Oper} {rest : List Oper} {o : Oper} {a : Act} {Q : Exit → Act → World → Prop} (hgd : o.guard = none) (l c : Operand) (ho : o.op = .makeSlice 22 l c) (n : Nat) (hl : a.eval l = .int .i64 n) (hc : a.eval c = .int .i64 n) (hn : n ≤ 1000000)
    (h : ∀ w', OwnI w' w.heap.size .u8 (.slice (some ⟨w.heap.size, 0, none⟩) n n) (List.replicate n 0) → Below w.heap.size w w' → wpList Try.prog ops Q rest (a.put o.dst (.slice (some ⟨w.heap.size, 0, none⟩) n n)) w') : wpList Try.prog ops Q (o :: rest) a w := by
  obtain ⟨w', e, h1, h2⟩ := run_make_u8 w n hn
  refine wp_op hgd (v := .slice (some ⟨w.heap.size, 0, none⟩) n n) ?_ (h w' h1 h2)
  unfold execOp
  simp only [ho, hl, hc, Sem.run_bind, e, Result.andThen_ok, Sem.run_pure]

theorem textT_long {T : List Nd} {b : ByteArray} (hT : T.length < 65536) : if b.size ≤ 2048 then 1 ≤ (textT T b).2 else (textT T b).2 = 0 := by
  unfold textT
  split
  · exact addT_pos hT
  · rfl
theorem textT_sub {T : List Nd} {b : ByteArray} : (∃ R, (textT T b).1 = T ++ R) ∧ (textT T b).1.length ≤ T.length + 1 := by
  unfold textT
  split
  · exact ⟨addT_sub, addT_len⟩
  · exact ⟨⟨[], by simp⟩, by simp⟩
theorem makeT_ones {R : List Nd} {q : Nat} (hT : R.length < 60000) : if q ≤ 16 then 1 ≤ (makeT (nS :: R) 3 (List.replicate q 1)).2 else (makeT (nS :: R) 3 (List.replicate q 1)).2 = 0 := by
  have hk : (List.replicate q (1 : Int)).map (kindT (nS :: R)) = List.replicate q 2 := by rw [List.map_replicate]; rfl
  have h0 : (0 : Int) ∉ (List.replicate q (1 : Int)).map (kindT (nS :: R)) := by rw [hk]; simp
  split
  · rw [make_yes h0 (by rw [hk]; simp [formedT]; omega)]
    exact addT_pos (by simp; omega)
  · rw [make_no2 (by rw [hk]; simp [formedT]; omega)]

def LongPost (w : World) (e : Ending) (w' : World) : Prop := e = .returned (.bool true) ∧ Below w.heap.size w w'
set_option maxHeartbeats 1600000 in
set_option maxRecDepth 100000 in
theorem termLong_row (w : World) (a : Int) (ha : (Lit.int .u16 a).wf = true) (b : Int) (hb : (Lit.int .u8 b).wf = true) : Calls Try.prog 12 #[.int .u16 a, .int .u8 b] w (LongPost w) := by
  obtain ⟨a0, a1⟩ := bounds_u16 ha
  obtain ⟨b0, b1⟩ := bounds_u8 hb
  clear ha hb
  obtain ⟨k, rfl⟩ := Int.eq_ofNat_of_zero_le a0
  obtain ⟨p, rfl⟩ := Int.eq_ofNat_of_zero_le b0
  go_enter Try.func12, Try.ntmps12
  go_wp2_with fail
  refine (new_any w).mono ?_
  rintro e w1 ⟨tb, rfl, ht1, hb1⟩
  have HT1 := Lib.hid ht1
  have HF1 := Lib.hid (Frm.of_below (C := tabO) (B := w.heap.size) hb1)
  clear ht1 hb1
  go_wp2_with fail
  refine (secret_any w1 HT1.out).mono ?_
  rintro e w2 p2
  obtain ⟨rfl, ht2, hf2⟩ := p2.intro aw1
  have HT2 := Lib.hid ht2
  have HF2 := Lib.hid (HF1.out.trans hf2)
  clear p2 ht2 hf2 HF1 HT1
  generalize hm : (k : Int) % 4000 = m' at *
  generalize hq : (p : Int) % 40 = q' at *
  obtain ⟨m, rfl⟩ := Int.eq_ofNat_of_zero_le (show 0 ≤ m' by omega)
  obtain ⟨q, rfl⟩ := Int.eq_ofNat_of_zero_le (show 0 ≤ q' by omega)
  have hm4 : m < 4000 := by omega
  have hq4 : q < 40 := by omega
  clear hm hq
  go_wp2_with (at_make; refine wp_make_u8 rfl _ _ rfl m rfl rfl ?_ ?_; omega; intro w3 ho3 hb3)
  refine (text_any _ _ _ _ w3 (HT2.out.below hb3) (ho3.rds (B' := 0))).mono ?_
  rintro e w4 p4
  have hz : (strOfNums (List.replicate m 0)).size = m := by rw [strOfNums_size]; simp
  obtain ⟨⟨T4, h4⟩, he4⟩ : ∃ r, textT [nS] (strOfNums (List.replicate m 0)) = r := ⟨_, rfl⟩
  have hpos := textT_long (T := [nS]) (b := strOfNums (List.replicate m 0)) (by simp)
  obtain ⟨⟨R, hR⟩, hlen⟩ := textT_sub (T := [nS]) (b := strOfNums (List.replicate m 0))
  rw [he4] at hpos hR hlen
  rw [hz] at hpos
  simp only at hpos hR hlen
  obtain ⟨rfl, ht4, hf4⟩ := p4.intro he4
  subst hR
  have hR1 : R.length ≤ 1 := by simpa using hlen
  have HT4 := Lib.hid ht4
  have HF4 := Lib.hid ((HF2.out.trans (.of_below hb3)).trans hf4)
  have HPOS := Lib.hid hpos
  clear p4 ht4 hf4 HF2 HT2 hz he4 hpos ho3 hb3 hlen
  go_wp2_with fail
  go_loopw [10, 11] (fun v i wr => ∃ k : Nat, k ≤ q ∧ i = .int .i64 k ∧ OwnI wr w4.heap.size .i64 v (List.replicate k 1) ∧ Below w4.heap.size w4 wr) (fun _ i _ => q - (intOf i).toNat)
  case atStart => exact ⟨0, Nat.zero_le _, rfl, OwnI.nil _ _ _, Below.refl _ _⟩
  case round =>
    obtain ⟨j, hj, rfl, hown, hb⟩ := hrel
    have HO := Lib.hid hown
    have HB := Lib.hid hb
    clear hown hb
    by_cases hlt : j < q
    · go_wp2_with (at_builtin; refine wp_app_term (ys := [1]) rfl _ _ rfl rfl rfl (HO.out.below (below_new _)) (RdI.one _ .i64 _ _) rfl ?_ ?_ ?_)
      · have := HB.out.size; simp; omega
      · simp; omega
      intro v' w5 hv5 hg5 hb5
      have HV := Lib.hid hv5
      have HB5 := Lib.hid ((HB.out.alloc HB.out.size _).trans hb5)
      clear hv5 hg5 hb5
      go_wp2_with fail
      go_roundw
      case rel => exact ⟨j + 1, by omega, by go_num, by rw [← replicate_snoc]; exact HV.out, HB5.out⟩
      case measure => simp [intOf]; omega
    · obtain rfl : j = q := by omega
      go_wp2_with fail
      have hl6 : (List.replicate j (1 : Int)).length = j := by simp
      obtain ⟨A6, c6, rfl⟩ := HO.out.slice
      rw [hl6]
      have R6 : Hid (Rds 0 wr .i64 A6 j c6 (List.replicate j 1)) := by
        have := HO.out.rds (B' := 0)
        rw [hl6] at this
        exact this
      refine (make_any 3 A6 j c6 _ wr (HT4.out.below HB.out) R6.out (by intro x hx; obtain ⟨_, rfl⟩ := List.mem_replicate.1 hx; omega) (by omega)).mono ?_
      rintro e w7 p7
      obtain ⟨⟨T7, h7⟩, he7⟩ : ∃ r, makeT ([nS] ++ R) 3 (List.replicate j 1) = r := ⟨_, rfl⟩
      have hpos7 := makeT_ones (R := R) (q := j) (by omega)
      rw [show nS :: R = [nS] ++ R from rfl, he7] at hpos7
      simp only at hpos7
      obtain ⟨rfl, ht7, hf7⟩ := p7.intro he7
      have HF7 := Lib.hid ((HF4.out.trans (.of_below HB.out)).trans hf7)
      have b4 : (h4 != 0) = decide (m ≤ 2048) := by
        have := HPOS.out
        split at this
        · rename_i h; simp [h]; omega
        · rename_i h; simp [h]; omega
      have b7 : (h7 != 0) = decide (j ≤ 16) := by
        split at hpos7
        · rename_i h; simp [h]; omega
        · rename_i h; simp [h]; omega
      clear p7 hf7 ht7 HF4 HT4 HPOS hpos7 he7 R6 HO HB hl6
      have d4 : decide ((m : Int) ≤ 2048) = decide (m ≤ 2048) := by simp only [decide_eq_decide]; omega
      have d7 : decide ((j : Int) ≤ 16) = decide (j ≤ 16) := by simp only [decide_eq_decide]; omega
      by_cases hm2 : m ≤ 2048 <;> by_cases hj2 : j ≤ 16
      all_goals
        simp only [hm2, hj2, decide_true, decide_false] at b4 b7 d4 d7
        go_wp2_with fail
        refine (awake02_any w7).mono ?_
        rintro e w8 ⟨rfl, hb8⟩
        have HB8 := Lib.hid (HF7.out.trans (.of_below hb8))
        clear hb8
        go_wp2_with fail
        go_ret
        exact ⟨rfl, HB8.out.below (Nat.le_refl _)⟩
end Go.Proofs.Ytoelbhmgmlnieaa
