/- Rows and derived of law 15, row by row. Printed by gen_rows.py. -/
import Derived.Test.YtbcicfgffjgpdaaSchedIs
set_option linter.unusedVariables false
set_option linter.unusedSimpArgs false
namespace Go.Proofs.Ytbcicfgffjgpdaa
open Go Go.RowKit Go.WideMaps

theorem text_have {T : List Nd} {x : Int} {b : ByteArray} (hw : WfT T) (h : getT T x = some (nT b)) (hb : b.size ≤ 2048) : textT T b = (T, x) := by
  have r := getT_range h
  obtain ⟨i, rfl⟩ : ∃ i : Nat, x = (i : Int) + 1 := ⟨(x - 1).toNat, by omega⟩
  rw [getT_nat] at h
  have hl := lookT_of hw h (by simp [nT])
  unfold textT
  rw [if_pos hb]
  unfold addT
  rw [if_neg (show ¬ (1 : Int) = 2 by decide), show lookT T ⟨1, b, []⟩ = some i from hl]

set_option maxHeartbeats 1600000 in
set_option maxRecDepth 100000 in
theorem rows_any (w : World) : Calls Try.prog 49 #[] w (fun e w' => e = .returned (.slice (some ⟨w.heap.size, 0, none⟩) 13 13) ∧ w' = w.alloc (.cells #[.string lbClientIn, .bool false, .string lbServerIn, .bool false, .string lbEarly, .bool false, .string lbClientEarly, .bool true, .string lbHandshake, .bool false, .string lbClientHs, .bool true, .string lbServerHs, .bool true, .string lbMain, .bool false, .string lbClientApp, .bool true, .string lbServerApp, .bool true, .string lbResume, .bool true, .string lbFinished, .bool false, .string lbBinder, .bool false] 79)) := by
  go_enter Try.func49, Try.ntmps49
  go_wp2_with fail
  go_returns
  exact ⟨rfl, rfl⟩
theorem is_lit {B tb g t : Nat} {T : List Nd} (h kind : Int) (xs : List Int) (w : World) (ht : IsTab B w tb T) (hg : w.heap.size = g) (hf : Fit h) (hn : xs.length ≤ 1000000) (cs : Array Value) (hc : cs = (xs.map (Value.int .i64)).toArray) (hs : spT t = false) (n : Nat) (hl : xs.length = n) :
    Calls Try.prog 30 #[.pointer (some ⟨tb, 0, none⟩), .int .i64 h, .int .i64 kind, .slice (some ⟨g, 0, none⟩) n n] (w.alloc (.cells cs t)) (MacedPost (isT T h kind xs) w) := by
  subst hg hc hl
  refine (is_any h kind _ _ _ xs (w.alloc (.cells (xs.map (Value.int .i64)).toArray t)) (ht.below (below_new _)) hf ((OwnI.fresh (B := 0) (Nat.zero_le _) hs (by omega)).rds (B' := 0))).mono ?_
  rintro e w' ⟨rfl, hb⟩
  exact ⟨rfl, below_next (below_new _) (by simp) hb⟩
def YesPost (B tb : Nat) (T : List Nd) (w : World) (e : Ending) (w' : World) : Prop := e = .returned (.bool true) ∧ IsTab B w' tb T ∧ Frm tabO B w w'

set_option maxHeartbeats 1600000 in
set_option maxRecDepth 100000 in
theorem derived_0 {B tb : Nat} {T : List Nd} (h o tr em : Int) (w : World) (ht : IsTab B w tb T) (hD : DerAt T h o lbClientIn em) (he : getT T em = some (nT ByteArray.empty)) (ho : Fit o) (hr : Fit tr) :
    Calls Try.prog 33 #[.pointer (some ⟨tb, 0, none⟩), .int .i64 h, .int .i64 0, .int .i64 o, .int .i64 tr] w (YesPost B tb T w) := by
  obtain ⟨ha, hD1, hD2⟩ := hD
  have hrh := getT_range hD1
  have hra := getT_range hD2
  have hre := getT_range he
  have htl := ht.1.len
  have FH : Hid (Fit h) := ⟨by omega, by omega⟩
  have FA : Hid (Fit ha) := ⟨by omega, by omega⟩
  have FE : Hid (Fit em) := ⟨by omega, by omega⟩
  have FO := Lib.hid ho
  have FR := Lib.hid hr
  have HD := Lib.hid hD1
  have E0 := Lib.hid (text_have ht.1 he (by decide))
  have E1 := Lib.hid (text_have ht.1 hD2 (by decide))
  have HT := Lib.hid ht
  clear hD1 hD2 he hrh hra hre htl ho hr ht
  go_enter Try.func33, Try.ntmps33
  go_wp2_with fail
  have key := rows_any w
  refine key.mono ?_
  clear key
  rintro e w1 ⟨rfl, rfl⟩
  go_wp2_with fail
  obtain ⟨W2, hW2⟩ : ∃ W2, W2 = (w.alloc (.cells #[.string lbClientIn, .bool false, .string lbServerIn, .bool false, .string lbEarly, .bool false, .string lbClientEarly, .bool true, .string lbHandshake, .bool false, .string lbClientHs, .bool true, .string lbServerHs, .bool true, .string lbMain, .bool false, .string lbClientApp, .bool true, .string lbServerApp, .bool true, .string lbResume, .bool true, .string lbFinished, .bool false, .string lbBinder, .bool false] 79)).alloc (.cells #[.string lbClientIn, .bool false] 79) := ⟨_, rfl⟩
  rw [← hW2]
  have HR2 : Hid (W2.heap[w.heap.size + 1]? = some (.cells #[.string lbClientIn, .bool false] 79 (0, 0))) := by rw [hW2]; exact heap_alloc2_new w _ _
  have HB2 : Hid (Below w.heap.size w W2) := by rw [hW2]; exact (below_new _).alloc (by simp) _
  clear hW2
  have key := text_any none 0 0 [] W2 (HT.out.below HB2.out) (Rds.nil 0 _ _)
  refine key.mono ?_
  clear key
  rintro e w3 p3
  obtain ⟨rfl, ht3, hf3⟩ := p3.intro (show textT T (strOfNums []) = (T, em) from E0.out)
  have HT3 := Lib.hid ht3
  have HF3 := Lib.hid ((Frm.of_below HB2.out).trans hf3)
  have hr3 := hf3.block _ _ HR2.out (.inr rfl)
  have c0 : w3.cell? ⟨w.heap.size + 1, 0, none⟩ = some (.string lbClientIn) := by rw [cell_of_row w3 _ 0 _ _ _ hr3]; rfl
  have c1 : w3.cell? ⟨w.heap.size + 1, 1, none⟩ = some (.bool false) := by rw [cell_of_row w3 _ 1 _ _ _ hr3]; rfl
  clear p3 ht3 hf3 HB2 HR2 hr3
  go_wp2_with ((with_reducible show wpList _ _ _ (Oper.mk _ (Op.convert 9 27 _) _ _ _ _ :: _) _ _); refine wp_str_bytes rfl _ rfl lbClientIn rfl (by decide) ?_; intro cc w4 hr4 hb4)
  have HT4 := Lib.hid (HT3.out.below hb4)
  have HF4 := Lib.hid (HF3.out.trans (.of_below hb4))
  have hr4' := Lib.hid (hr4 0)
  clear hr4 hb4 HT3 HF3 c0 c1
  have key := text_any _ _ _ _ w4 HT4.out hr4'.out
  rw [str_numsL] at key
  refine key.mono ?_
  clear key
  rintro e w5 p5
  obtain ⟨rfl, ht5, hf5⟩ := p5.intro E1.out
  have HT5 := Lib.hid ht5
  have HF5 := Lib.hid (HF4.out.trans hf5)
  have key := is_lit (g := w5.heap.size) (t := 25) h 6 [o, ha, em] w5 ht5 rfl FH.out (by simp) _ rfl (by decide) 3 rfl
  rw [isT_at HD.out, decide_eq_true ⟨rfl, rfl⟩] at key
  clear p5 ht5 hf5 HT4 HF4 hr4'
  go_wp2_with fail
  refine key.mono ?_
  clear key
  rintro e w6 ⟨rfl, hb6⟩
  have HB6 := Lib.hid hb6
  clear hb6
  go_wp2_with fail
  go_ret
  exact ⟨rfl, HT5.out.below HB6.out, HF5.out.trans (.of_below HB6.out)⟩

set_option maxHeartbeats 1600000 in
set_option maxRecDepth 100000 in
theorem derived_1 {B tb : Nat} {T : List Nd} (h o tr em : Int) (w : World) (ht : IsTab B w tb T) (hD : DerAt T h o lbServerIn em) (he : getT T em = some (nT ByteArray.empty)) (ho : Fit o) (hr : Fit tr) :
    Calls Try.prog 33 #[.pointer (some ⟨tb, 0, none⟩), .int .i64 h, .int .i64 1, .int .i64 o, .int .i64 tr] w (YesPost B tb T w) := by
  obtain ⟨ha, hD1, hD2⟩ := hD
  have hrh := getT_range hD1
  have hra := getT_range hD2
  have hre := getT_range he
  have htl := ht.1.len
  have FH : Hid (Fit h) := ⟨by omega, by omega⟩
  have FA : Hid (Fit ha) := ⟨by omega, by omega⟩
  have FE : Hid (Fit em) := ⟨by omega, by omega⟩
  have FO := Lib.hid ho
  have FR := Lib.hid hr
  have HD := Lib.hid hD1
  have E0 := Lib.hid (text_have ht.1 he (by decide))
  have E1 := Lib.hid (text_have ht.1 hD2 (by decide))
  have HT := Lib.hid ht
  clear hD1 hD2 he hrh hra hre htl ho hr ht
  go_enter Try.func33, Try.ntmps33
  go_wp2_with fail
  have key := rows_any w
  refine key.mono ?_
  clear key
  rintro e w1 ⟨rfl, rfl⟩
  go_wp2_with fail
  obtain ⟨W2, hW2⟩ : ∃ W2, W2 = (w.alloc (.cells #[.string lbClientIn, .bool false, .string lbServerIn, .bool false, .string lbEarly, .bool false, .string lbClientEarly, .bool true, .string lbHandshake, .bool false, .string lbClientHs, .bool true, .string lbServerHs, .bool true, .string lbMain, .bool false, .string lbClientApp, .bool true, .string lbServerApp, .bool true, .string lbResume, .bool true, .string lbFinished, .bool false, .string lbBinder, .bool false] 79)).alloc (.cells #[.string lbServerIn, .bool false] 79) := ⟨_, rfl⟩
  rw [← hW2]
  have HR2 : Hid (W2.heap[w.heap.size + 1]? = some (.cells #[.string lbServerIn, .bool false] 79 (0, 0))) := by rw [hW2]; exact heap_alloc2_new w _ _
  have HB2 : Hid (Below w.heap.size w W2) := by rw [hW2]; exact (below_new _).alloc (by simp) _
  clear hW2
  have key := text_any none 0 0 [] W2 (HT.out.below HB2.out) (Rds.nil 0 _ _)
  refine key.mono ?_
  clear key
  rintro e w3 p3
  obtain ⟨rfl, ht3, hf3⟩ := p3.intro (show textT T (strOfNums []) = (T, em) from E0.out)
  have HT3 := Lib.hid ht3
  have HF3 := Lib.hid ((Frm.of_below HB2.out).trans hf3)
  have hr3 := hf3.block _ _ HR2.out (.inr rfl)
  have c0 : w3.cell? ⟨w.heap.size + 1, 0, none⟩ = some (.string lbServerIn) := by rw [cell_of_row w3 _ 0 _ _ _ hr3]; rfl
  have c1 : w3.cell? ⟨w.heap.size + 1, 1, none⟩ = some (.bool false) := by rw [cell_of_row w3 _ 1 _ _ _ hr3]; rfl
  clear p3 ht3 hf3 HB2 HR2 hr3
  go_wp2_with ((with_reducible show wpList _ _ _ (Oper.mk _ (Op.convert 9 27 _) _ _ _ _ :: _) _ _); refine wp_str_bytes rfl _ rfl lbServerIn rfl (by decide) ?_; intro cc w4 hr4 hb4)
  have HT4 := Lib.hid (HT3.out.below hb4)
  have HF4 := Lib.hid (HF3.out.trans (.of_below hb4))
  have hr4' := Lib.hid (hr4 0)
  clear hr4 hb4 HT3 HF3 c0 c1
  have key := text_any _ _ _ _ w4 HT4.out hr4'.out
  rw [str_numsL] at key
  refine key.mono ?_
  clear key
  rintro e w5 p5
  obtain ⟨rfl, ht5, hf5⟩ := p5.intro E1.out
  have HT5 := Lib.hid ht5
  have HF5 := Lib.hid (HF4.out.trans hf5)
  have key := is_lit (g := w5.heap.size) (t := 25) h 6 [o, ha, em] w5 ht5 rfl FH.out (by simp) _ rfl (by decide) 3 rfl
  rw [isT_at HD.out, decide_eq_true ⟨rfl, rfl⟩] at key
  clear p5 ht5 hf5 HT4 HF4 hr4'
  go_wp2_with fail
  refine key.mono ?_
  clear key
  rintro e w6 ⟨rfl, hb6⟩
  have HB6 := Lib.hid hb6
  clear hb6
  go_wp2_with fail
  go_ret
  exact ⟨rfl, HT5.out.below HB6.out, HF5.out.trans (.of_below HB6.out)⟩

set_option maxHeartbeats 1600000 in
set_option maxRecDepth 100000 in
theorem derived_2 {B tb : Nat} {T : List Nd} (h o tr em : Int) (w : World) (ht : IsTab B w tb T) (hD : DerAt T h o lbEarly em) (he : getT T em = some (nT ByteArray.empty)) (ho : Fit o) (hr : Fit tr) :
    Calls Try.prog 33 #[.pointer (some ⟨tb, 0, none⟩), .int .i64 h, .int .i64 2, .int .i64 o, .int .i64 tr] w (YesPost B tb T w) := by
  obtain ⟨ha, hD1, hD2⟩ := hD
  have hrh := getT_range hD1
  have hra := getT_range hD2
  have hre := getT_range he
  have htl := ht.1.len
  have FH : Hid (Fit h) := ⟨by omega, by omega⟩
  have FA : Hid (Fit ha) := ⟨by omega, by omega⟩
  have FE : Hid (Fit em) := ⟨by omega, by omega⟩
  have FO := Lib.hid ho
  have FR := Lib.hid hr
  have HD := Lib.hid hD1
  have E0 := Lib.hid (text_have ht.1 he (by decide))
  have E1 := Lib.hid (text_have ht.1 hD2 (by decide))
  have HT := Lib.hid ht
  clear hD1 hD2 he hrh hra hre htl ho hr ht
  go_enter Try.func33, Try.ntmps33
  go_wp2_with fail
  have key := rows_any w
  refine key.mono ?_
  clear key
  rintro e w1 ⟨rfl, rfl⟩
  go_wp2_with fail
  obtain ⟨W2, hW2⟩ : ∃ W2, W2 = (w.alloc (.cells #[.string lbClientIn, .bool false, .string lbServerIn, .bool false, .string lbEarly, .bool false, .string lbClientEarly, .bool true, .string lbHandshake, .bool false, .string lbClientHs, .bool true, .string lbServerHs, .bool true, .string lbMain, .bool false, .string lbClientApp, .bool true, .string lbServerApp, .bool true, .string lbResume, .bool true, .string lbFinished, .bool false, .string lbBinder, .bool false] 79)).alloc (.cells #[.string lbEarly, .bool false] 79) := ⟨_, rfl⟩
  rw [← hW2]
  have HR2 : Hid (W2.heap[w.heap.size + 1]? = some (.cells #[.string lbEarly, .bool false] 79 (0, 0))) := by rw [hW2]; exact heap_alloc2_new w _ _
  have HB2 : Hid (Below w.heap.size w W2) := by rw [hW2]; exact (below_new _).alloc (by simp) _
  clear hW2
  have key := text_any none 0 0 [] W2 (HT.out.below HB2.out) (Rds.nil 0 _ _)
  refine key.mono ?_
  clear key
  rintro e w3 p3
  obtain ⟨rfl, ht3, hf3⟩ := p3.intro (show textT T (strOfNums []) = (T, em) from E0.out)
  have HT3 := Lib.hid ht3
  have HF3 := Lib.hid ((Frm.of_below HB2.out).trans hf3)
  have hr3 := hf3.block _ _ HR2.out (.inr rfl)
  have c0 : w3.cell? ⟨w.heap.size + 1, 0, none⟩ = some (.string lbEarly) := by rw [cell_of_row w3 _ 0 _ _ _ hr3]; rfl
  have c1 : w3.cell? ⟨w.heap.size + 1, 1, none⟩ = some (.bool false) := by rw [cell_of_row w3 _ 1 _ _ _ hr3]; rfl
  clear p3 ht3 hf3 HB2 HR2 hr3
  go_wp2_with ((with_reducible show wpList _ _ _ (Oper.mk _ (Op.convert 9 27 _) _ _ _ _ :: _) _ _); refine wp_str_bytes rfl _ rfl lbEarly rfl (by decide) ?_; intro cc w4 hr4 hb4)
  have HT4 := Lib.hid (HT3.out.below hb4)
  have HF4 := Lib.hid (HF3.out.trans (.of_below hb4))
  have hr4' := Lib.hid (hr4 0)
  clear hr4 hb4 HT3 HF3 c0 c1
  have key := text_any _ _ _ _ w4 HT4.out hr4'.out
  rw [str_numsL] at key
  refine key.mono ?_
  clear key
  rintro e w5 p5
  obtain ⟨rfl, ht5, hf5⟩ := p5.intro E1.out
  have HT5 := Lib.hid ht5
  have HF5 := Lib.hid (HF4.out.trans hf5)
  have key := is_lit (g := w5.heap.size) (t := 25) h 6 [o, ha, em] w5 ht5 rfl FH.out (by simp) _ rfl (by decide) 3 rfl
  rw [isT_at HD.out, decide_eq_true ⟨rfl, rfl⟩] at key
  clear p5 ht5 hf5 HT4 HF4 hr4'
  go_wp2_with fail
  refine key.mono ?_
  clear key
  rintro e w6 ⟨rfl, hb6⟩
  have HB6 := Lib.hid hb6
  clear hb6
  go_wp2_with fail
  go_ret
  exact ⟨rfl, HT5.out.below HB6.out, HF5.out.trans (.of_below HB6.out)⟩

set_option maxHeartbeats 1600000 in
set_option maxRecDepth 100000 in
theorem derived_3 {B tb : Nat} {T : List Nd} (h o tr em : Int) (w : World) (ht : IsTab B w tb T) (hD : DerAt T h o lbClientEarly tr) (he : getT T em = some (nT ByteArray.empty)) (ho : Fit o) (hr : Fit tr) :
    Calls Try.prog 33 #[.pointer (some ⟨tb, 0, none⟩), .int .i64 h, .int .i64 3, .int .i64 o, .int .i64 tr] w (YesPost B tb T w) := by
  obtain ⟨ha, hD1, hD2⟩ := hD
  have hrh := getT_range hD1
  have hra := getT_range hD2
  have hre := getT_range he
  have htl := ht.1.len
  have FH : Hid (Fit h) := ⟨by omega, by omega⟩
  have FA : Hid (Fit ha) := ⟨by omega, by omega⟩
  have FE : Hid (Fit em) := ⟨by omega, by omega⟩
  have FO := Lib.hid ho
  have FR := Lib.hid hr
  have HD := Lib.hid hD1
  have E0 := Lib.hid (text_have ht.1 he (by decide))
  have E1 := Lib.hid (text_have ht.1 hD2 (by decide))
  have HT := Lib.hid ht
  clear hD1 hD2 he hrh hra hre htl ho hr ht
  go_enter Try.func33, Try.ntmps33
  go_wp2_with fail
  have key := rows_any w
  refine key.mono ?_
  clear key
  rintro e w1 ⟨rfl, rfl⟩
  go_wp2_with fail
  obtain ⟨W2, hW2⟩ : ∃ W2, W2 = (w.alloc (.cells #[.string lbClientIn, .bool false, .string lbServerIn, .bool false, .string lbEarly, .bool false, .string lbClientEarly, .bool true, .string lbHandshake, .bool false, .string lbClientHs, .bool true, .string lbServerHs, .bool true, .string lbMain, .bool false, .string lbClientApp, .bool true, .string lbServerApp, .bool true, .string lbResume, .bool true, .string lbFinished, .bool false, .string lbBinder, .bool false] 79)).alloc (.cells #[.string lbClientEarly, .bool true] 79) := ⟨_, rfl⟩
  rw [← hW2]
  have HR2 : Hid (W2.heap[w.heap.size + 1]? = some (.cells #[.string lbClientEarly, .bool true] 79 (0, 0))) := by rw [hW2]; exact heap_alloc2_new w _ _
  have HB2 : Hid (Below w.heap.size w W2) := by rw [hW2]; exact (below_new _).alloc (by simp) _
  clear hW2
  have key := text_any none 0 0 [] W2 (HT.out.below HB2.out) (Rds.nil 0 _ _)
  refine key.mono ?_
  clear key
  rintro e w3 p3
  obtain ⟨rfl, ht3, hf3⟩ := p3.intro (show textT T (strOfNums []) = (T, em) from E0.out)
  have HT3 := Lib.hid ht3
  have HF3 := Lib.hid ((Frm.of_below HB2.out).trans hf3)
  have hr3 := hf3.block _ _ HR2.out (.inr rfl)
  have c0 : w3.cell? ⟨w.heap.size + 1, 0, none⟩ = some (.string lbClientEarly) := by rw [cell_of_row w3 _ 0 _ _ _ hr3]; rfl
  have c1 : w3.cell? ⟨w.heap.size + 1, 1, none⟩ = some (.bool true) := by rw [cell_of_row w3 _ 1 _ _ _ hr3]; rfl
  clear p3 ht3 hf3 HB2 HR2 hr3
  go_wp2_with ((with_reducible show wpList _ _ _ (Oper.mk _ (Op.convert 9 27 _) _ _ _ _ :: _) _ _); refine wp_str_bytes rfl _ rfl lbClientEarly rfl (by decide) ?_; intro cc w4 hr4 hb4)
  have HT4 := Lib.hid (HT3.out.below hb4)
  have HF4 := Lib.hid (HF3.out.trans (.of_below hb4))
  have hr4' := Lib.hid (hr4 0)
  clear hr4 hb4 HT3 HF3 c0 c1
  have key := text_any _ _ _ _ w4 HT4.out hr4'.out
  rw [str_numsL] at key
  refine key.mono ?_
  clear key
  rintro e w5 p5
  obtain ⟨rfl, ht5, hf5⟩ := p5.intro E1.out
  have HT5 := Lib.hid ht5
  have HF5 := Lib.hid (HF4.out.trans hf5)
  have key := is_lit (g := w5.heap.size) (t := 25) h 6 [o, ha, tr] w5 ht5 rfl FH.out (by simp) _ rfl (by decide) 3 rfl
  rw [isT_at HD.out, decide_eq_true ⟨rfl, rfl⟩] at key
  clear p5 ht5 hf5 HT4 HF4 hr4'
  go_wp2_with fail
  refine key.mono ?_
  clear key
  rintro e w6 ⟨rfl, hb6⟩
  have HB6 := Lib.hid hb6
  clear hb6
  go_wp2_with fail
  go_ret
  exact ⟨rfl, HT5.out.below HB6.out, HF5.out.trans (.of_below HB6.out)⟩

set_option maxHeartbeats 1600000 in
set_option maxRecDepth 100000 in
theorem derived_4 {B tb : Nat} {T : List Nd} (h o tr em : Int) (w : World) (ht : IsTab B w tb T) (hD : DerAt T h o lbHandshake em) (he : getT T em = some (nT ByteArray.empty)) (ho : Fit o) (hr : Fit tr) :
    Calls Try.prog 33 #[.pointer (some ⟨tb, 0, none⟩), .int .i64 h, .int .i64 4, .int .i64 o, .int .i64 tr] w (YesPost B tb T w) := by
  obtain ⟨ha, hD1, hD2⟩ := hD
  have hrh := getT_range hD1
  have hra := getT_range hD2
  have hre := getT_range he
  have htl := ht.1.len
  have FH : Hid (Fit h) := ⟨by omega, by omega⟩
  have FA : Hid (Fit ha) := ⟨by omega, by omega⟩
  have FE : Hid (Fit em) := ⟨by omega, by omega⟩
  have FO := Lib.hid ho
  have FR := Lib.hid hr
  have HD := Lib.hid hD1
  have E0 := Lib.hid (text_have ht.1 he (by decide))
  have E1 := Lib.hid (text_have ht.1 hD2 (by decide))
  have HT := Lib.hid ht
  clear hD1 hD2 he hrh hra hre htl ho hr ht
  go_enter Try.func33, Try.ntmps33
  go_wp2_with fail
  have key := rows_any w
  refine key.mono ?_
  clear key
  rintro e w1 ⟨rfl, rfl⟩
  go_wp2_with fail
  obtain ⟨W2, hW2⟩ : ∃ W2, W2 = (w.alloc (.cells #[.string lbClientIn, .bool false, .string lbServerIn, .bool false, .string lbEarly, .bool false, .string lbClientEarly, .bool true, .string lbHandshake, .bool false, .string lbClientHs, .bool true, .string lbServerHs, .bool true, .string lbMain, .bool false, .string lbClientApp, .bool true, .string lbServerApp, .bool true, .string lbResume, .bool true, .string lbFinished, .bool false, .string lbBinder, .bool false] 79)).alloc (.cells #[.string lbHandshake, .bool false] 79) := ⟨_, rfl⟩
  rw [← hW2]
  have HR2 : Hid (W2.heap[w.heap.size + 1]? = some (.cells #[.string lbHandshake, .bool false] 79 (0, 0))) := by rw [hW2]; exact heap_alloc2_new w _ _
  have HB2 : Hid (Below w.heap.size w W2) := by rw [hW2]; exact (below_new _).alloc (by simp) _
  clear hW2
  have key := text_any none 0 0 [] W2 (HT.out.below HB2.out) (Rds.nil 0 _ _)
  refine key.mono ?_
  clear key
  rintro e w3 p3
  obtain ⟨rfl, ht3, hf3⟩ := p3.intro (show textT T (strOfNums []) = (T, em) from E0.out)
  have HT3 := Lib.hid ht3
  have HF3 := Lib.hid ((Frm.of_below HB2.out).trans hf3)
  have hr3 := hf3.block _ _ HR2.out (.inr rfl)
  have c0 : w3.cell? ⟨w.heap.size + 1, 0, none⟩ = some (.string lbHandshake) := by rw [cell_of_row w3 _ 0 _ _ _ hr3]; rfl
  have c1 : w3.cell? ⟨w.heap.size + 1, 1, none⟩ = some (.bool false) := by rw [cell_of_row w3 _ 1 _ _ _ hr3]; rfl
  clear p3 ht3 hf3 HB2 HR2 hr3
  go_wp2_with ((with_reducible show wpList _ _ _ (Oper.mk _ (Op.convert 9 27 _) _ _ _ _ :: _) _ _); refine wp_str_bytes rfl _ rfl lbHandshake rfl (by decide) ?_; intro cc w4 hr4 hb4)
  have HT4 := Lib.hid (HT3.out.below hb4)
  have HF4 := Lib.hid (HF3.out.trans (.of_below hb4))
  have hr4' := Lib.hid (hr4 0)
  clear hr4 hb4 HT3 HF3 c0 c1
  have key := text_any _ _ _ _ w4 HT4.out hr4'.out
  rw [str_numsL] at key
  refine key.mono ?_
  clear key
  rintro e w5 p5
  obtain ⟨rfl, ht5, hf5⟩ := p5.intro E1.out
  have HT5 := Lib.hid ht5
  have HF5 := Lib.hid (HF4.out.trans hf5)
  have key := is_lit (g := w5.heap.size) (t := 25) h 6 [o, ha, em] w5 ht5 rfl FH.out (by simp) _ rfl (by decide) 3 rfl
  rw [isT_at HD.out, decide_eq_true ⟨rfl, rfl⟩] at key
  clear p5 ht5 hf5 HT4 HF4 hr4'
  go_wp2_with fail
  refine key.mono ?_
  clear key
  rintro e w6 ⟨rfl, hb6⟩
  have HB6 := Lib.hid hb6
  clear hb6
  go_wp2_with fail
  go_ret
  exact ⟨rfl, HT5.out.below HB6.out, HF5.out.trans (.of_below HB6.out)⟩

set_option maxHeartbeats 1600000 in
set_option maxRecDepth 100000 in
theorem derived_5 {B tb : Nat} {T : List Nd} (h o tr em : Int) (w : World) (ht : IsTab B w tb T) (hD : DerAt T h o lbClientHs tr) (he : getT T em = some (nT ByteArray.empty)) (ho : Fit o) (hr : Fit tr) :
    Calls Try.prog 33 #[.pointer (some ⟨tb, 0, none⟩), .int .i64 h, .int .i64 5, .int .i64 o, .int .i64 tr] w (YesPost B tb T w) := by
  obtain ⟨ha, hD1, hD2⟩ := hD
  have hrh := getT_range hD1
  have hra := getT_range hD2
  have hre := getT_range he
  have htl := ht.1.len
  have FH : Hid (Fit h) := ⟨by omega, by omega⟩
  have FA : Hid (Fit ha) := ⟨by omega, by omega⟩
  have FE : Hid (Fit em) := ⟨by omega, by omega⟩
  have FO := Lib.hid ho
  have FR := Lib.hid hr
  have HD := Lib.hid hD1
  have E0 := Lib.hid (text_have ht.1 he (by decide))
  have E1 := Lib.hid (text_have ht.1 hD2 (by decide))
  have HT := Lib.hid ht
  clear hD1 hD2 he hrh hra hre htl ho hr ht
  go_enter Try.func33, Try.ntmps33
  go_wp2_with fail
  have key := rows_any w
  refine key.mono ?_
  clear key
  rintro e w1 ⟨rfl, rfl⟩
  go_wp2_with fail
  obtain ⟨W2, hW2⟩ : ∃ W2, W2 = (w.alloc (.cells #[.string lbClientIn, .bool false, .string lbServerIn, .bool false, .string lbEarly, .bool false, .string lbClientEarly, .bool true, .string lbHandshake, .bool false, .string lbClientHs, .bool true, .string lbServerHs, .bool true, .string lbMain, .bool false, .string lbClientApp, .bool true, .string lbServerApp, .bool true, .string lbResume, .bool true, .string lbFinished, .bool false, .string lbBinder, .bool false] 79)).alloc (.cells #[.string lbClientHs, .bool true] 79) := ⟨_, rfl⟩
  rw [← hW2]
  have HR2 : Hid (W2.heap[w.heap.size + 1]? = some (.cells #[.string lbClientHs, .bool true] 79 (0, 0))) := by rw [hW2]; exact heap_alloc2_new w _ _
  have HB2 : Hid (Below w.heap.size w W2) := by rw [hW2]; exact (below_new _).alloc (by simp) _
  clear hW2
  have key := text_any none 0 0 [] W2 (HT.out.below HB2.out) (Rds.nil 0 _ _)
  refine key.mono ?_
  clear key
  rintro e w3 p3
  obtain ⟨rfl, ht3, hf3⟩ := p3.intro (show textT T (strOfNums []) = (T, em) from E0.out)
  have HT3 := Lib.hid ht3
  have HF3 := Lib.hid ((Frm.of_below HB2.out).trans hf3)
  have hr3 := hf3.block _ _ HR2.out (.inr rfl)
  have c0 : w3.cell? ⟨w.heap.size + 1, 0, none⟩ = some (.string lbClientHs) := by rw [cell_of_row w3 _ 0 _ _ _ hr3]; rfl
  have c1 : w3.cell? ⟨w.heap.size + 1, 1, none⟩ = some (.bool true) := by rw [cell_of_row w3 _ 1 _ _ _ hr3]; rfl
  clear p3 ht3 hf3 HB2 HR2 hr3
  go_wp2_with ((with_reducible show wpList _ _ _ (Oper.mk _ (Op.convert 9 27 _) _ _ _ _ :: _) _ _); refine wp_str_bytes rfl _ rfl lbClientHs rfl (by decide) ?_; intro cc w4 hr4 hb4)
  have HT4 := Lib.hid (HT3.out.below hb4)
  have HF4 := Lib.hid (HF3.out.trans (.of_below hb4))
  have hr4' := Lib.hid (hr4 0)
  clear hr4 hb4 HT3 HF3 c0 c1
  have key := text_any _ _ _ _ w4 HT4.out hr4'.out
  rw [str_numsL] at key
  refine key.mono ?_
  clear key
  rintro e w5 p5
  obtain ⟨rfl, ht5, hf5⟩ := p5.intro E1.out
  have HT5 := Lib.hid ht5
  have HF5 := Lib.hid (HF4.out.trans hf5)
  have key := is_lit (g := w5.heap.size) (t := 25) h 6 [o, ha, tr] w5 ht5 rfl FH.out (by simp) _ rfl (by decide) 3 rfl
  rw [isT_at HD.out, decide_eq_true ⟨rfl, rfl⟩] at key
  clear p5 ht5 hf5 HT4 HF4 hr4'
  go_wp2_with fail
  refine key.mono ?_
  clear key
  rintro e w6 ⟨rfl, hb6⟩
  have HB6 := Lib.hid hb6
  clear hb6
  go_wp2_with fail
  go_ret
  exact ⟨rfl, HT5.out.below HB6.out, HF5.out.trans (.of_below HB6.out)⟩

set_option maxHeartbeats 1600000 in
set_option maxRecDepth 100000 in
theorem derived_6 {B tb : Nat} {T : List Nd} (h o tr em : Int) (w : World) (ht : IsTab B w tb T) (hD : DerAt T h o lbServerHs tr) (he : getT T em = some (nT ByteArray.empty)) (ho : Fit o) (hr : Fit tr) :
    Calls Try.prog 33 #[.pointer (some ⟨tb, 0, none⟩), .int .i64 h, .int .i64 6, .int .i64 o, .int .i64 tr] w (YesPost B tb T w) := by
  obtain ⟨ha, hD1, hD2⟩ := hD
  have hrh := getT_range hD1
  have hra := getT_range hD2
  have hre := getT_range he
  have htl := ht.1.len
  have FH : Hid (Fit h) := ⟨by omega, by omega⟩
  have FA : Hid (Fit ha) := ⟨by omega, by omega⟩
  have FE : Hid (Fit em) := ⟨by omega, by omega⟩
  have FO := Lib.hid ho
  have FR := Lib.hid hr
  have HD := Lib.hid hD1
  have E0 := Lib.hid (text_have ht.1 he (by decide))
  have E1 := Lib.hid (text_have ht.1 hD2 (by decide))
  have HT := Lib.hid ht
  clear hD1 hD2 he hrh hra hre htl ho hr ht
  go_enter Try.func33, Try.ntmps33
  go_wp2_with fail
  have key := rows_any w
  refine key.mono ?_
  clear key
  rintro e w1 ⟨rfl, rfl⟩
  go_wp2_with fail
  obtain ⟨W2, hW2⟩ : ∃ W2, W2 = (w.alloc (.cells #[.string lbClientIn, .bool false, .string lbServerIn, .bool false, .string lbEarly, .bool false, .string lbClientEarly, .bool true, .string lbHandshake, .bool false, .string lbClientHs, .bool true, .string lbServerHs, .bool true, .string lbMain, .bool false, .string lbClientApp, .bool true, .string lbServerApp, .bool true, .string lbResume, .bool true, .string lbFinished, .bool false, .string lbBinder, .bool false] 79)).alloc (.cells #[.string lbServerHs, .bool true] 79) := ⟨_, rfl⟩
  rw [← hW2]
  have HR2 : Hid (W2.heap[w.heap.size + 1]? = some (.cells #[.string lbServerHs, .bool true] 79 (0, 0))) := by rw [hW2]; exact heap_alloc2_new w _ _
  have HB2 : Hid (Below w.heap.size w W2) := by rw [hW2]; exact (below_new _).alloc (by simp) _
  clear hW2
  have key := text_any none 0 0 [] W2 (HT.out.below HB2.out) (Rds.nil 0 _ _)
  refine key.mono ?_
  clear key
  rintro e w3 p3
  obtain ⟨rfl, ht3, hf3⟩ := p3.intro (show textT T (strOfNums []) = (T, em) from E0.out)
  have HT3 := Lib.hid ht3
  have HF3 := Lib.hid ((Frm.of_below HB2.out).trans hf3)
  have hr3 := hf3.block _ _ HR2.out (.inr rfl)
  have c0 : w3.cell? ⟨w.heap.size + 1, 0, none⟩ = some (.string lbServerHs) := by rw [cell_of_row w3 _ 0 _ _ _ hr3]; rfl
  have c1 : w3.cell? ⟨w.heap.size + 1, 1, none⟩ = some (.bool true) := by rw [cell_of_row w3 _ 1 _ _ _ hr3]; rfl
  clear p3 ht3 hf3 HB2 HR2 hr3
  go_wp2_with ((with_reducible show wpList _ _ _ (Oper.mk _ (Op.convert 9 27 _) _ _ _ _ :: _) _ _); refine wp_str_bytes rfl _ rfl lbServerHs rfl (by decide) ?_; intro cc w4 hr4 hb4)
  have HT4 := Lib.hid (HT3.out.below hb4)
  have HF4 := Lib.hid (HF3.out.trans (.of_below hb4))
  have hr4' := Lib.hid (hr4 0)
  clear hr4 hb4 HT3 HF3 c0 c1
  have key := text_any _ _ _ _ w4 HT4.out hr4'.out
  rw [str_numsL] at key
  refine key.mono ?_
  clear key
  rintro e w5 p5
  obtain ⟨rfl, ht5, hf5⟩ := p5.intro E1.out
  have HT5 := Lib.hid ht5
  have HF5 := Lib.hid (HF4.out.trans hf5)
  have key := is_lit (g := w5.heap.size) (t := 25) h 6 [o, ha, tr] w5 ht5 rfl FH.out (by simp) _ rfl (by decide) 3 rfl
  rw [isT_at HD.out, decide_eq_true ⟨rfl, rfl⟩] at key
  clear p5 ht5 hf5 HT4 HF4 hr4'
  go_wp2_with fail
  refine key.mono ?_
  clear key
  rintro e w6 ⟨rfl, hb6⟩
  have HB6 := Lib.hid hb6
  clear hb6
  go_wp2_with fail
  go_ret
  exact ⟨rfl, HT5.out.below HB6.out, HF5.out.trans (.of_below HB6.out)⟩

set_option maxHeartbeats 1600000 in
set_option maxRecDepth 100000 in
theorem derived_7 {B tb : Nat} {T : List Nd} (h o tr em : Int) (w : World) (ht : IsTab B w tb T) (hD : DerAt T h o lbMain em) (he : getT T em = some (nT ByteArray.empty)) (ho : Fit o) (hr : Fit tr) :
    Calls Try.prog 33 #[.pointer (some ⟨tb, 0, none⟩), .int .i64 h, .int .i64 7, .int .i64 o, .int .i64 tr] w (YesPost B tb T w) := by
  obtain ⟨ha, hD1, hD2⟩ := hD
  have hrh := getT_range hD1
  have hra := getT_range hD2
  have hre := getT_range he
  have htl := ht.1.len
  have FH : Hid (Fit h) := ⟨by omega, by omega⟩
  have FA : Hid (Fit ha) := ⟨by omega, by omega⟩
  have FE : Hid (Fit em) := ⟨by omega, by omega⟩
  have FO := Lib.hid ho
  have FR := Lib.hid hr
  have HD := Lib.hid hD1
  have E0 := Lib.hid (text_have ht.1 he (by decide))
  have E1 := Lib.hid (text_have ht.1 hD2 (by decide))
  have HT := Lib.hid ht
  clear hD1 hD2 he hrh hra hre htl ho hr ht
  go_enter Try.func33, Try.ntmps33
  go_wp2_with fail
  have key := rows_any w
  refine key.mono ?_
  clear key
  rintro e w1 ⟨rfl, rfl⟩
  go_wp2_with fail
  obtain ⟨W2, hW2⟩ : ∃ W2, W2 = (w.alloc (.cells #[.string lbClientIn, .bool false, .string lbServerIn, .bool false, .string lbEarly, .bool false, .string lbClientEarly, .bool true, .string lbHandshake, .bool false, .string lbClientHs, .bool true, .string lbServerHs, .bool true, .string lbMain, .bool false, .string lbClientApp, .bool true, .string lbServerApp, .bool true, .string lbResume, .bool true, .string lbFinished, .bool false, .string lbBinder, .bool false] 79)).alloc (.cells #[.string lbMain, .bool false] 79) := ⟨_, rfl⟩
  rw [← hW2]
  have HR2 : Hid (W2.heap[w.heap.size + 1]? = some (.cells #[.string lbMain, .bool false] 79 (0, 0))) := by rw [hW2]; exact heap_alloc2_new w _ _
  have HB2 : Hid (Below w.heap.size w W2) := by rw [hW2]; exact (below_new _).alloc (by simp) _
  clear hW2
  have key := text_any none 0 0 [] W2 (HT.out.below HB2.out) (Rds.nil 0 _ _)
  refine key.mono ?_
  clear key
  rintro e w3 p3
  obtain ⟨rfl, ht3, hf3⟩ := p3.intro (show textT T (strOfNums []) = (T, em) from E0.out)
  have HT3 := Lib.hid ht3
  have HF3 := Lib.hid ((Frm.of_below HB2.out).trans hf3)
  have hr3 := hf3.block _ _ HR2.out (.inr rfl)
  have c0 : w3.cell? ⟨w.heap.size + 1, 0, none⟩ = some (.string lbMain) := by rw [cell_of_row w3 _ 0 _ _ _ hr3]; rfl
  have c1 : w3.cell? ⟨w.heap.size + 1, 1, none⟩ = some (.bool false) := by rw [cell_of_row w3 _ 1 _ _ _ hr3]; rfl
  clear p3 ht3 hf3 HB2 HR2 hr3
  go_wp2_with ((with_reducible show wpList _ _ _ (Oper.mk _ (Op.convert 9 27 _) _ _ _ _ :: _) _ _); refine wp_str_bytes rfl _ rfl lbMain rfl (by decide) ?_; intro cc w4 hr4 hb4)
  have HT4 := Lib.hid (HT3.out.below hb4)
  have HF4 := Lib.hid (HF3.out.trans (.of_below hb4))
  have hr4' := Lib.hid (hr4 0)
  clear hr4 hb4 HT3 HF3 c0 c1
  have key := text_any _ _ _ _ w4 HT4.out hr4'.out
  rw [str_numsL] at key
  refine key.mono ?_
  clear key
  rintro e w5 p5
  obtain ⟨rfl, ht5, hf5⟩ := p5.intro E1.out
  have HT5 := Lib.hid ht5
  have HF5 := Lib.hid (HF4.out.trans hf5)
  have key := is_lit (g := w5.heap.size) (t := 25) h 6 [o, ha, em] w5 ht5 rfl FH.out (by simp) _ rfl (by decide) 3 rfl
  rw [isT_at HD.out, decide_eq_true ⟨rfl, rfl⟩] at key
  clear p5 ht5 hf5 HT4 HF4 hr4'
  go_wp2_with fail
  refine key.mono ?_
  clear key
  rintro e w6 ⟨rfl, hb6⟩
  have HB6 := Lib.hid hb6
  clear hb6
  go_wp2_with fail
  go_ret
  exact ⟨rfl, HT5.out.below HB6.out, HF5.out.trans (.of_below HB6.out)⟩

set_option maxHeartbeats 1600000 in
set_option maxRecDepth 100000 in
theorem derived_8 {B tb : Nat} {T : List Nd} (h o tr em : Int) (w : World) (ht : IsTab B w tb T) (hD : DerAt T h o lbClientApp tr) (he : getT T em = some (nT ByteArray.empty)) (ho : Fit o) (hr : Fit tr) :
    Calls Try.prog 33 #[.pointer (some ⟨tb, 0, none⟩), .int .i64 h, .int .i64 8, .int .i64 o, .int .i64 tr] w (YesPost B tb T w) := by
  obtain ⟨ha, hD1, hD2⟩ := hD
  have hrh := getT_range hD1
  have hra := getT_range hD2
  have hre := getT_range he
  have htl := ht.1.len
  have FH : Hid (Fit h) := ⟨by omega, by omega⟩
  have FA : Hid (Fit ha) := ⟨by omega, by omega⟩
  have FE : Hid (Fit em) := ⟨by omega, by omega⟩
  have FO := Lib.hid ho
  have FR := Lib.hid hr
  have HD := Lib.hid hD1
  have E0 := Lib.hid (text_have ht.1 he (by decide))
  have E1 := Lib.hid (text_have ht.1 hD2 (by decide))
  have HT := Lib.hid ht
  clear hD1 hD2 he hrh hra hre htl ho hr ht
  go_enter Try.func33, Try.ntmps33
  go_wp2_with fail
  have key := rows_any w
  refine key.mono ?_
  clear key
  rintro e w1 ⟨rfl, rfl⟩
  go_wp2_with fail
  obtain ⟨W2, hW2⟩ : ∃ W2, W2 = (w.alloc (.cells #[.string lbClientIn, .bool false, .string lbServerIn, .bool false, .string lbEarly, .bool false, .string lbClientEarly, .bool true, .string lbHandshake, .bool false, .string lbClientHs, .bool true, .string lbServerHs, .bool true, .string lbMain, .bool false, .string lbClientApp, .bool true, .string lbServerApp, .bool true, .string lbResume, .bool true, .string lbFinished, .bool false, .string lbBinder, .bool false] 79)).alloc (.cells #[.string lbClientApp, .bool true] 79) := ⟨_, rfl⟩
  rw [← hW2]
  have HR2 : Hid (W2.heap[w.heap.size + 1]? = some (.cells #[.string lbClientApp, .bool true] 79 (0, 0))) := by rw [hW2]; exact heap_alloc2_new w _ _
  have HB2 : Hid (Below w.heap.size w W2) := by rw [hW2]; exact (below_new _).alloc (by simp) _
  clear hW2
  have key := text_any none 0 0 [] W2 (HT.out.below HB2.out) (Rds.nil 0 _ _)
  refine key.mono ?_
  clear key
  rintro e w3 p3
  obtain ⟨rfl, ht3, hf3⟩ := p3.intro (show textT T (strOfNums []) = (T, em) from E0.out)
  have HT3 := Lib.hid ht3
  have HF3 := Lib.hid ((Frm.of_below HB2.out).trans hf3)
  have hr3 := hf3.block _ _ HR2.out (.inr rfl)
  have c0 : w3.cell? ⟨w.heap.size + 1, 0, none⟩ = some (.string lbClientApp) := by rw [cell_of_row w3 _ 0 _ _ _ hr3]; rfl
  have c1 : w3.cell? ⟨w.heap.size + 1, 1, none⟩ = some (.bool true) := by rw [cell_of_row w3 _ 1 _ _ _ hr3]; rfl
  clear p3 ht3 hf3 HB2 HR2 hr3
  go_wp2_with ((with_reducible show wpList _ _ _ (Oper.mk _ (Op.convert 9 27 _) _ _ _ _ :: _) _ _); refine wp_str_bytes rfl _ rfl lbClientApp rfl (by decide) ?_; intro cc w4 hr4 hb4)
  have HT4 := Lib.hid (HT3.out.below hb4)
  have HF4 := Lib.hid (HF3.out.trans (.of_below hb4))
  have hr4' := Lib.hid (hr4 0)
  clear hr4 hb4 HT3 HF3 c0 c1
  have key := text_any _ _ _ _ w4 HT4.out hr4'.out
  rw [str_numsL] at key
  refine key.mono ?_
  clear key
  rintro e w5 p5
  obtain ⟨rfl, ht5, hf5⟩ := p5.intro E1.out
  have HT5 := Lib.hid ht5
  have HF5 := Lib.hid (HF4.out.trans hf5)
  have key := is_lit (g := w5.heap.size) (t := 25) h 6 [o, ha, tr] w5 ht5 rfl FH.out (by simp) _ rfl (by decide) 3 rfl
  rw [isT_at HD.out, decide_eq_true ⟨rfl, rfl⟩] at key
  clear p5 ht5 hf5 HT4 HF4 hr4'
  go_wp2_with fail
  refine key.mono ?_
  clear key
  rintro e w6 ⟨rfl, hb6⟩
  have HB6 := Lib.hid hb6
  clear hb6
  go_wp2_with fail
  go_ret
  exact ⟨rfl, HT5.out.below HB6.out, HF5.out.trans (.of_below HB6.out)⟩

set_option maxHeartbeats 1600000 in
set_option maxRecDepth 100000 in
theorem derived_9 {B tb : Nat} {T : List Nd} (h o tr em : Int) (w : World) (ht : IsTab B w tb T) (hD : DerAt T h o lbServerApp tr) (he : getT T em = some (nT ByteArray.empty)) (ho : Fit o) (hr : Fit tr) :
    Calls Try.prog 33 #[.pointer (some ⟨tb, 0, none⟩), .int .i64 h, .int .i64 9, .int .i64 o, .int .i64 tr] w (YesPost B tb T w) := by
  obtain ⟨ha, hD1, hD2⟩ := hD
  have hrh := getT_range hD1
  have hra := getT_range hD2
  have hre := getT_range he
  have htl := ht.1.len
  have FH : Hid (Fit h) := ⟨by omega, by omega⟩
  have FA : Hid (Fit ha) := ⟨by omega, by omega⟩
  have FE : Hid (Fit em) := ⟨by omega, by omega⟩
  have FO := Lib.hid ho
  have FR := Lib.hid hr
  have HD := Lib.hid hD1
  have E0 := Lib.hid (text_have ht.1 he (by decide))
  have E1 := Lib.hid (text_have ht.1 hD2 (by decide))
  have HT := Lib.hid ht
  clear hD1 hD2 he hrh hra hre htl ho hr ht
  go_enter Try.func33, Try.ntmps33
  go_wp2_with fail
  have key := rows_any w
  refine key.mono ?_
  clear key
  rintro e w1 ⟨rfl, rfl⟩
  go_wp2_with fail
  obtain ⟨W2, hW2⟩ : ∃ W2, W2 = (w.alloc (.cells #[.string lbClientIn, .bool false, .string lbServerIn, .bool false, .string lbEarly, .bool false, .string lbClientEarly, .bool true, .string lbHandshake, .bool false, .string lbClientHs, .bool true, .string lbServerHs, .bool true, .string lbMain, .bool false, .string lbClientApp, .bool true, .string lbServerApp, .bool true, .string lbResume, .bool true, .string lbFinished, .bool false, .string lbBinder, .bool false] 79)).alloc (.cells #[.string lbServerApp, .bool true] 79) := ⟨_, rfl⟩
  rw [← hW2]
  have HR2 : Hid (W2.heap[w.heap.size + 1]? = some (.cells #[.string lbServerApp, .bool true] 79 (0, 0))) := by rw [hW2]; exact heap_alloc2_new w _ _
  have HB2 : Hid (Below w.heap.size w W2) := by rw [hW2]; exact (below_new _).alloc (by simp) _
  clear hW2
  have key := text_any none 0 0 [] W2 (HT.out.below HB2.out) (Rds.nil 0 _ _)
  refine key.mono ?_
  clear key
  rintro e w3 p3
  obtain ⟨rfl, ht3, hf3⟩ := p3.intro (show textT T (strOfNums []) = (T, em) from E0.out)
  have HT3 := Lib.hid ht3
  have HF3 := Lib.hid ((Frm.of_below HB2.out).trans hf3)
  have hr3 := hf3.block _ _ HR2.out (.inr rfl)
  have c0 : w3.cell? ⟨w.heap.size + 1, 0, none⟩ = some (.string lbServerApp) := by rw [cell_of_row w3 _ 0 _ _ _ hr3]; rfl
  have c1 : w3.cell? ⟨w.heap.size + 1, 1, none⟩ = some (.bool true) := by rw [cell_of_row w3 _ 1 _ _ _ hr3]; rfl
  clear p3 ht3 hf3 HB2 HR2 hr3
  go_wp2_with ((with_reducible show wpList _ _ _ (Oper.mk _ (Op.convert 9 27 _) _ _ _ _ :: _) _ _); refine wp_str_bytes rfl _ rfl lbServerApp rfl (by decide) ?_; intro cc w4 hr4 hb4)
  have HT4 := Lib.hid (HT3.out.below hb4)
  have HF4 := Lib.hid (HF3.out.trans (.of_below hb4))
  have hr4' := Lib.hid (hr4 0)
  clear hr4 hb4 HT3 HF3 c0 c1
  have key := text_any _ _ _ _ w4 HT4.out hr4'.out
  rw [str_numsL] at key
  refine key.mono ?_
  clear key
  rintro e w5 p5
  obtain ⟨rfl, ht5, hf5⟩ := p5.intro E1.out
  have HT5 := Lib.hid ht5
  have HF5 := Lib.hid (HF4.out.trans hf5)
  have key := is_lit (g := w5.heap.size) (t := 25) h 6 [o, ha, tr] w5 ht5 rfl FH.out (by simp) _ rfl (by decide) 3 rfl
  rw [isT_at HD.out, decide_eq_true ⟨rfl, rfl⟩] at key
  clear p5 ht5 hf5 HT4 HF4 hr4'
  go_wp2_with fail
  refine key.mono ?_
  clear key
  rintro e w6 ⟨rfl, hb6⟩
  have HB6 := Lib.hid hb6
  clear hb6
  go_wp2_with fail
  go_ret
  exact ⟨rfl, HT5.out.below HB6.out, HF5.out.trans (.of_below HB6.out)⟩

set_option maxHeartbeats 1600000 in
set_option maxRecDepth 100000 in
theorem derived_10 {B tb : Nat} {T : List Nd} (h o tr em : Int) (w : World) (ht : IsTab B w tb T) (hD : DerAt T h o lbResume tr) (he : getT T em = some (nT ByteArray.empty)) (ho : Fit o) (hr : Fit tr) :
    Calls Try.prog 33 #[.pointer (some ⟨tb, 0, none⟩), .int .i64 h, .int .i64 10, .int .i64 o, .int .i64 tr] w (YesPost B tb T w) := by
  obtain ⟨ha, hD1, hD2⟩ := hD
  have hrh := getT_range hD1
  have hra := getT_range hD2
  have hre := getT_range he
  have htl := ht.1.len
  have FH : Hid (Fit h) := ⟨by omega, by omega⟩
  have FA : Hid (Fit ha) := ⟨by omega, by omega⟩
  have FE : Hid (Fit em) := ⟨by omega, by omega⟩
  have FO := Lib.hid ho
  have FR := Lib.hid hr
  have HD := Lib.hid hD1
  have E0 := Lib.hid (text_have ht.1 he (by decide))
  have E1 := Lib.hid (text_have ht.1 hD2 (by decide))
  have HT := Lib.hid ht
  clear hD1 hD2 he hrh hra hre htl ho hr ht
  go_enter Try.func33, Try.ntmps33
  go_wp2_with fail
  have key := rows_any w
  refine key.mono ?_
  clear key
  rintro e w1 ⟨rfl, rfl⟩
  go_wp2_with fail
  obtain ⟨W2, hW2⟩ : ∃ W2, W2 = (w.alloc (.cells #[.string lbClientIn, .bool false, .string lbServerIn, .bool false, .string lbEarly, .bool false, .string lbClientEarly, .bool true, .string lbHandshake, .bool false, .string lbClientHs, .bool true, .string lbServerHs, .bool true, .string lbMain, .bool false, .string lbClientApp, .bool true, .string lbServerApp, .bool true, .string lbResume, .bool true, .string lbFinished, .bool false, .string lbBinder, .bool false] 79)).alloc (.cells #[.string lbResume, .bool true] 79) := ⟨_, rfl⟩
  rw [← hW2]
  have HR2 : Hid (W2.heap[w.heap.size + 1]? = some (.cells #[.string lbResume, .bool true] 79 (0, 0))) := by rw [hW2]; exact heap_alloc2_new w _ _
  have HB2 : Hid (Below w.heap.size w W2) := by rw [hW2]; exact (below_new _).alloc (by simp) _
  clear hW2
  have key := text_any none 0 0 [] W2 (HT.out.below HB2.out) (Rds.nil 0 _ _)
  refine key.mono ?_
  clear key
  rintro e w3 p3
  obtain ⟨rfl, ht3, hf3⟩ := p3.intro (show textT T (strOfNums []) = (T, em) from E0.out)
  have HT3 := Lib.hid ht3
  have HF3 := Lib.hid ((Frm.of_below HB2.out).trans hf3)
  have hr3 := hf3.block _ _ HR2.out (.inr rfl)
  have c0 : w3.cell? ⟨w.heap.size + 1, 0, none⟩ = some (.string lbResume) := by rw [cell_of_row w3 _ 0 _ _ _ hr3]; rfl
  have c1 : w3.cell? ⟨w.heap.size + 1, 1, none⟩ = some (.bool true) := by rw [cell_of_row w3 _ 1 _ _ _ hr3]; rfl
  clear p3 ht3 hf3 HB2 HR2 hr3
  go_wp2_with ((with_reducible show wpList _ _ _ (Oper.mk _ (Op.convert 9 27 _) _ _ _ _ :: _) _ _); refine wp_str_bytes rfl _ rfl lbResume rfl (by decide) ?_; intro cc w4 hr4 hb4)
  have HT4 := Lib.hid (HT3.out.below hb4)
  have HF4 := Lib.hid (HF3.out.trans (.of_below hb4))
  have hr4' := Lib.hid (hr4 0)
  clear hr4 hb4 HT3 HF3 c0 c1
  have key := text_any _ _ _ _ w4 HT4.out hr4'.out
  rw [str_numsL] at key
  refine key.mono ?_
  clear key
  rintro e w5 p5
  obtain ⟨rfl, ht5, hf5⟩ := p5.intro E1.out
  have HT5 := Lib.hid ht5
  have HF5 := Lib.hid (HF4.out.trans hf5)
  have key := is_lit (g := w5.heap.size) (t := 25) h 6 [o, ha, tr] w5 ht5 rfl FH.out (by simp) _ rfl (by decide) 3 rfl
  rw [isT_at HD.out, decide_eq_true ⟨rfl, rfl⟩] at key
  clear p5 ht5 hf5 HT4 HF4 hr4'
  go_wp2_with fail
  refine key.mono ?_
  clear key
  rintro e w6 ⟨rfl, hb6⟩
  have HB6 := Lib.hid hb6
  clear hb6
  go_wp2_with fail
  go_ret
  exact ⟨rfl, HT5.out.below HB6.out, HF5.out.trans (.of_below HB6.out)⟩

set_option maxHeartbeats 1600000 in
set_option maxRecDepth 100000 in
theorem derived_11 {B tb : Nat} {T : List Nd} (h o tr em : Int) (w : World) (ht : IsTab B w tb T) (hD : DerAt T h o lbFinished em) (he : getT T em = some (nT ByteArray.empty)) (ho : Fit o) (hr : Fit tr) :
    Calls Try.prog 33 #[.pointer (some ⟨tb, 0, none⟩), .int .i64 h, .int .i64 11, .int .i64 o, .int .i64 tr] w (YesPost B tb T w) := by
  obtain ⟨ha, hD1, hD2⟩ := hD
  have hrh := getT_range hD1
  have hra := getT_range hD2
  have hre := getT_range he
  have htl := ht.1.len
  have FH : Hid (Fit h) := ⟨by omega, by omega⟩
  have FA : Hid (Fit ha) := ⟨by omega, by omega⟩
  have FE : Hid (Fit em) := ⟨by omega, by omega⟩
  have FO := Lib.hid ho
  have FR := Lib.hid hr
  have HD := Lib.hid hD1
  have E0 := Lib.hid (text_have ht.1 he (by decide))
  have E1 := Lib.hid (text_have ht.1 hD2 (by decide))
  have HT := Lib.hid ht
  clear hD1 hD2 he hrh hra hre htl ho hr ht
  go_enter Try.func33, Try.ntmps33
  go_wp2_with fail
  have key := rows_any w
  refine key.mono ?_
  clear key
  rintro e w1 ⟨rfl, rfl⟩
  go_wp2_with fail
  obtain ⟨W2, hW2⟩ : ∃ W2, W2 = (w.alloc (.cells #[.string lbClientIn, .bool false, .string lbServerIn, .bool false, .string lbEarly, .bool false, .string lbClientEarly, .bool true, .string lbHandshake, .bool false, .string lbClientHs, .bool true, .string lbServerHs, .bool true, .string lbMain, .bool false, .string lbClientApp, .bool true, .string lbServerApp, .bool true, .string lbResume, .bool true, .string lbFinished, .bool false, .string lbBinder, .bool false] 79)).alloc (.cells #[.string lbFinished, .bool false] 79) := ⟨_, rfl⟩
  rw [← hW2]
  have HR2 : Hid (W2.heap[w.heap.size + 1]? = some (.cells #[.string lbFinished, .bool false] 79 (0, 0))) := by rw [hW2]; exact heap_alloc2_new w _ _
  have HB2 : Hid (Below w.heap.size w W2) := by rw [hW2]; exact (below_new _).alloc (by simp) _
  clear hW2
  have key := text_any none 0 0 [] W2 (HT.out.below HB2.out) (Rds.nil 0 _ _)
  refine key.mono ?_
  clear key
  rintro e w3 p3
  obtain ⟨rfl, ht3, hf3⟩ := p3.intro (show textT T (strOfNums []) = (T, em) from E0.out)
  have HT3 := Lib.hid ht3
  have HF3 := Lib.hid ((Frm.of_below HB2.out).trans hf3)
  have hr3 := hf3.block _ _ HR2.out (.inr rfl)
  have c0 : w3.cell? ⟨w.heap.size + 1, 0, none⟩ = some (.string lbFinished) := by rw [cell_of_row w3 _ 0 _ _ _ hr3]; rfl
  have c1 : w3.cell? ⟨w.heap.size + 1, 1, none⟩ = some (.bool false) := by rw [cell_of_row w3 _ 1 _ _ _ hr3]; rfl
  clear p3 ht3 hf3 HB2 HR2 hr3
  go_wp2_with ((with_reducible show wpList _ _ _ (Oper.mk _ (Op.convert 9 27 _) _ _ _ _ :: _) _ _); refine wp_str_bytes rfl _ rfl lbFinished rfl (by decide) ?_; intro cc w4 hr4 hb4)
  have HT4 := Lib.hid (HT3.out.below hb4)
  have HF4 := Lib.hid (HF3.out.trans (.of_below hb4))
  have hr4' := Lib.hid (hr4 0)
  clear hr4 hb4 HT3 HF3 c0 c1
  have key := text_any _ _ _ _ w4 HT4.out hr4'.out
  rw [str_numsL] at key
  refine key.mono ?_
  clear key
  rintro e w5 p5
  obtain ⟨rfl, ht5, hf5⟩ := p5.intro E1.out
  have HT5 := Lib.hid ht5
  have HF5 := Lib.hid (HF4.out.trans hf5)
  have key := is_lit (g := w5.heap.size) (t := 25) h 6 [o, ha, em] w5 ht5 rfl FH.out (by simp) _ rfl (by decide) 3 rfl
  rw [isT_at HD.out, decide_eq_true ⟨rfl, rfl⟩] at key
  clear p5 ht5 hf5 HT4 HF4 hr4'
  go_wp2_with fail
  refine key.mono ?_
  clear key
  rintro e w6 ⟨rfl, hb6⟩
  have HB6 := Lib.hid hb6
  clear hb6
  go_wp2_with fail
  go_ret
  exact ⟨rfl, HT5.out.below HB6.out, HF5.out.trans (.of_below HB6.out)⟩

set_option maxHeartbeats 1600000 in
set_option maxRecDepth 100000 in
theorem derived_12 {B tb : Nat} {T : List Nd} (h o tr em : Int) (w : World) (ht : IsTab B w tb T) (hD : DerAt T h o lbBinder em) (he : getT T em = some (nT ByteArray.empty)) (ho : Fit o) (hr : Fit tr) :
    Calls Try.prog 33 #[.pointer (some ⟨tb, 0, none⟩), .int .i64 h, .int .i64 12, .int .i64 o, .int .i64 tr] w (YesPost B tb T w) := by
  obtain ⟨ha, hD1, hD2⟩ := hD
  have hrh := getT_range hD1
  have hra := getT_range hD2
  have hre := getT_range he
  have htl := ht.1.len
  have FH : Hid (Fit h) := ⟨by omega, by omega⟩
  have FA : Hid (Fit ha) := ⟨by omega, by omega⟩
  have FE : Hid (Fit em) := ⟨by omega, by omega⟩
  have FO := Lib.hid ho
  have FR := Lib.hid hr
  have HD := Lib.hid hD1
  have E0 := Lib.hid (text_have ht.1 he (by decide))
  have E1 := Lib.hid (text_have ht.1 hD2 (by decide))
  have HT := Lib.hid ht
  clear hD1 hD2 he hrh hra hre htl ho hr ht
  go_enter Try.func33, Try.ntmps33
  go_wp2_with fail
  have key := rows_any w
  refine key.mono ?_
  clear key
  rintro e w1 ⟨rfl, rfl⟩
  go_wp2_with fail
  obtain ⟨W2, hW2⟩ : ∃ W2, W2 = (w.alloc (.cells #[.string lbClientIn, .bool false, .string lbServerIn, .bool false, .string lbEarly, .bool false, .string lbClientEarly, .bool true, .string lbHandshake, .bool false, .string lbClientHs, .bool true, .string lbServerHs, .bool true, .string lbMain, .bool false, .string lbClientApp, .bool true, .string lbServerApp, .bool true, .string lbResume, .bool true, .string lbFinished, .bool false, .string lbBinder, .bool false] 79)).alloc (.cells #[.string lbBinder, .bool false] 79) := ⟨_, rfl⟩
  rw [← hW2]
  have HR2 : Hid (W2.heap[w.heap.size + 1]? = some (.cells #[.string lbBinder, .bool false] 79 (0, 0))) := by rw [hW2]; exact heap_alloc2_new w _ _
  have HB2 : Hid (Below w.heap.size w W2) := by rw [hW2]; exact (below_new _).alloc (by simp) _
  clear hW2
  have key := text_any none 0 0 [] W2 (HT.out.below HB2.out) (Rds.nil 0 _ _)
  refine key.mono ?_
  clear key
  rintro e w3 p3
  obtain ⟨rfl, ht3, hf3⟩ := p3.intro (show textT T (strOfNums []) = (T, em) from E0.out)
  have HT3 := Lib.hid ht3
  have HF3 := Lib.hid ((Frm.of_below HB2.out).trans hf3)
  have hr3 := hf3.block _ _ HR2.out (.inr rfl)
  have c0 : w3.cell? ⟨w.heap.size + 1, 0, none⟩ = some (.string lbBinder) := by rw [cell_of_row w3 _ 0 _ _ _ hr3]; rfl
  have c1 : w3.cell? ⟨w.heap.size + 1, 1, none⟩ = some (.bool false) := by rw [cell_of_row w3 _ 1 _ _ _ hr3]; rfl
  clear p3 ht3 hf3 HB2 HR2 hr3
  go_wp2_with ((with_reducible show wpList _ _ _ (Oper.mk _ (Op.convert 9 27 _) _ _ _ _ :: _) _ _); refine wp_str_bytes rfl _ rfl lbBinder rfl (by decide) ?_; intro cc w4 hr4 hb4)
  have HT4 := Lib.hid (HT3.out.below hb4)
  have HF4 := Lib.hid (HF3.out.trans (.of_below hb4))
  have hr4' := Lib.hid (hr4 0)
  clear hr4 hb4 HT3 HF3 c0 c1
  have key := text_any _ _ _ _ w4 HT4.out hr4'.out
  rw [str_numsL] at key
  refine key.mono ?_
  clear key
  rintro e w5 p5
  obtain ⟨rfl, ht5, hf5⟩ := p5.intro E1.out
  have HT5 := Lib.hid ht5
  have HF5 := Lib.hid (HF4.out.trans hf5)
  have key := is_lit (g := w5.heap.size) (t := 25) h 6 [o, ha, em] w5 ht5 rfl FH.out (by simp) _ rfl (by decide) 3 rfl
  rw [isT_at HD.out, decide_eq_true ⟨rfl, rfl⟩] at key
  clear p5 ht5 hf5 HT4 HF4 hr4'
  go_wp2_with fail
  refine key.mono ?_
  clear key
  rintro e w6 ⟨rfl, hb6⟩
  have HB6 := Lib.hid hb6
  clear hb6
  go_wp2_with fail
  go_ret
  exact ⟨rfl, HT5.out.below HB6.out, HF5.out.trans (.of_below HB6.out)⟩
end Go.Proofs.Ytbcicfgffjgpdaa
