/- The walk of TicketReads. No condition but the table of bit places. -/
import Derived.Test.YtbcicfgffjgpdaaDoorLaw17
set_option linter.unusedVariables false
set_option linter.unusedSimpArgs false
namespace Go.Proofs.YtbcicfgffjgpdaaDoor
open Go Go.RowKit Go.WideMaps

set_option maxHeartbeats 6400000 in
set_option maxRecDepth 100000 in
theorem reads_walk (w : World) (hz : Tz w) (A : Option Addr) (n c : Nat) (xs : List Int) (hr : Rds w.heap.size w .u8 A n c xs) (hb : Byt xs) :
    Calls Tryd.prog 4 #[.slice A n c] w (AwakePost w) := by
  have HZ := Lib.hid hz
  have HR := Lib.hid hr
  have HY := Lib.hid hb
  have HL := Lib.hid hr.len
  clear hz hr hb
  go_enter Tryd.func4, Tryd.ntmps4
  by_cases k0 : 200 < n
  · go_wp2_with fail
    go_ret
    exact ⟨rfl, Below.refl _ _⟩
  go_wp2_with fail
  refine (new_any w).mono ?_
  rintro e w1 ⟨tb, rfl, ht1, hb1⟩
  have HB1 := Lib.hid hb1
  have key := secret_any w1 ht1
  clear hb1 ht1
  go_wp2_with fail
  refine key.mono ?_
  clear key
  rintro e w2 p
  obtain ⟨rfl, ht, hf⟩ := p.intro sec1
  have HB2 := Lib.hid (HB1.out.trans (hf.below HB1.out.size))
  have key := secret_any w2 ht
  clear p ht hf HB1
  go_wp2_with fail
  refine key.mono ?_
  clear key
  rintro e w3 p
  obtain ⟨rfl, ht, hf⟩ := p.intro sec2
  have HB3 := Lib.hid (HB2.out.trans (hf.below HB2.out.size))
  have HW3 := Lib.hid ht.1
  have hconv := Lib.hid (run_const_bytes w3 #[.int .u8 116, .int .u8 105, .int .u8 99, .int .u8 107, .int .u8 101, .int .u8 116] 6 6)
  obtain ⟨V, hW⟩ : ∃ V, V = w3.alloc (.cells #[.int .u8 116, .int .u8 105, .int .u8 99, .int .u8 107, .int .u8 101, .int .u8 116] 5 (6, 7)) := ⟨_, rfl⟩
  have hr : Rds w.heap.size V .u8 (some ⟨w3.heap.size, 0, none⟩) 6 6 ticketL := by
    rw [hW]
    exact rds_marked (xs := ticketL) (t := 5) (6, 7) rfl (by decide) _ rfl 6 rfl (by decide)
  have hBV : Below w3.heap.size w3 V := by rw [hW]; exact below_new _
  have HBV := Lib.hid (below_next HB3.out HB3.out.size hBV)
  have key := text_any A n c xs V (ht.below hBV) (HR.out.below HBV.out)
  have HK := Lib.hid hr
  clear p ht hf hr hBV HB2 HB3
  obtain ⟨row, tx, hTA, -⟩ := tick_at (key := 1) (s := 2) (b := strOfNums xs) HW3.out (by rw [strOfNums_size]; have := HL.out; omega) (by decide) sec_in21 sec_in22
  have TA := Lib.hid hTA
  clear hTA
  go_wp2_with ((with_reducible show wpList _ _ _ (Oper.mk _ (Op.convert 31 31 _) _ _ _ _ :: _) _ _); refine wp_convert rfl _ _ _ rfl rfl hconv.out ?_)
  rw [← hW]
  clear hW hconv
  refine key.mono ?_
  clear key
  rintro e w4 p
  have r4 := textT_range (T := [secN, secN]) (b := strOfNums xs) (by decide)
  obtain ⟨⟨T4, h4⟩, e4⟩ : ∃ r, textT [secN, secN] (strOfNums xs) = r := ⟨_, rfl⟩
  rw [e4] at r4
  obtain ⟨rfl, ht, hf⟩ := p.intro e4
  have E4 := Lib.hid e4
  have R4 := Lib.hid r4
  have HB4 := Lib.hid (HBV.out.trans (hf.below HBV.out.size))
  have HK4 := Lib.hid (HK.out.frm hf.tab_sp)
  have hTl := ht.1.len
  have key := make_fit (g := w4.heap.size) (t := 26) 3 [h4, 2] w4 ht rfl (by have := R4.out; simp; exact ⟨fit_of this, ⟨by decide, by decide⟩⟩) (by simp) _ rfl (by decide) 2 rfl
  clear p e4 r4 ht hf HBV HK
  go_wp2_with fail
  refine key.mono ?_
  clear key
  rintro e w5 p
  have r5 := makeT_range (T := T4) (k := 3) (p := [h4, 2]) hTl
  obtain ⟨⟨T5, h5⟩, e5⟩ : ∃ r, makeT T4 3 [h4, 2] = r := ⟨_, rfl⟩
  rw [e5] at r5
  obtain ⟨rfl, ht, hf⟩ := p.intro e5
  have E5 := Lib.hid e5
  have HB5 := Lib.hid (HB4.out.trans (hf.below HB4.out.size))
  have HK5 := Lib.hid (HK4.out.frm hf.tab_sp)
  have key := seal_any 1 (some ⟨w3.heap.size, 0, none⟩) 6 6 ticketL h5 w5 ht ⟨by decide, by decide⟩ (fit_of r5) HK5.out
  rw [ticket_str] at key
  clear p e5 r5 ht hf HB4 HK4 hTl
  go_wp2_with fail
  refine key.mono ?_
  clear key
  rintro e w6 p
  have HET : Hid (tickT [secN, secN] 1 (strOfNums xs) 2 = sealT T5 1 ticketS h5) := by
    show _ = _
    unfold tickT rowT
    rw [E4.out]
    simp only
    rw [E5.out]
  obtain ⟨⟨T6, h⟩, e6⟩ : ∃ r, sealT T5 1 ticketS h5 = r := ⟨_, rfl⟩
  have hTA := TA.out
  rw [HET.out, e6] at hTA
  obtain ⟨rfl, ht, hf⟩ := p.intro e6
  have HB6 := Lib.hid (HB5.out.trans (hf.below HB5.out.size))
  have HT6 := Lib.hid ht
  have HFh := Lib.hid (fit_in ht.1 hTA.sl.in_)
  have HRV : Hid (∀ now, redeemV T6 1 h now = timeV (readT xs) 2 now) := fun now => by rw [hTA.redeem, numsL_str HY.out]
  have key := r17read_any A n c xs w6 (HR.out.below HB6.out) HY.out (by omega)
  clear p e6 ht hf HB5 HK5 hTA TA HET E4 E5 R4 HW3
  go_wp2_with fail
  refine key.mono ?_
  clear key
  rintro e w7 ⟨rfl, hb⟩
  cases hrd : readT xs with
  | none =>
    have htk : tkV xs = (0, 0, 0) := by unfold tkV; rw [hrd]; rfl
    rw [htk]
    obtain ⟨V7, hV⟩ : ∃ V, V = w7.alloc (.cells #[.int .i64 0, .int .i64 0, .int .i64 0] 23) := ⟨_, rfl⟩
    have hbV : Below w7.heap.size w7 V7 := by rw [hV]; exact below_new _
    have HB7 := Lib.hid (below_next HB6.out HB6.out.size (below_next hb hb.size hbV))
    have key := redeem_any 1 h 0 V7 (HT6.out.below (below_next hb hb.size hbV)) HFh.out ⟨by decide, by decide⟩
    rw [HRV.out, hrd] at key
    rw [show timeV none 2 0 = ((0, 0, 0, 0), 14) from rfl] at key
    clear hb hbV HB6 HT6 HRV htk hrd
    go_wp2_with fail
    rw [← hV]
    clear hV
    refine key.mono ?_
    clear key
    rintro e w8 ⟨rfl, hb⟩
    have HB8 := Lib.hid (below_next HB7.out HB7.out.size (below_next hb hb.size (below_new (.cells #[.int .i64 0, .int .i64 0, .int .i64 0, .int .i64 0] 29))))
    have key := awake17_any _ (HZ.out.later HB8.out)
    clear hb HB7
    go_wp2_with fail
    refine key.mono ?_
    clear key
    rintro e w9 ⟨rfl, hb⟩
    have HB9 := Lib.hid (below_next HB8.out HB8.out.size hb)
    clear hb
    go_wp2_with fail
    go_ret
    exact ⟨rfl, HB9.out⟩
  | some r =>
    obtain ⟨a, b, d⟩ := r
    have htk : tkV xs = (a, b, d) := by unfold tkV; rw [hrd]; rfl
    have hrg := readT_range hrd
    rw [htk]
    obtain ⟨V7, hV⟩ : ∃ V, V = w7.alloc (.cells #[.int .i64 a, .int .i64 b, .int .i64 d] 23) := ⟨_, rfl⟩
    have hbV : Below w7.heap.size w7 V7 := by rw [hV]; exact below_new _
    have x0 : V7.cell? ⟨w7.heap.size, 0, none⟩ = some (.int .i64 a) := by rw [hV]; simp [go_sem]
    have x1 : V7.cell? ⟨w7.heap.size, 1, none⟩ = some (.int .i64 b) := by rw [hV]; simp [go_sem]
    have x2 : V7.cell? ⟨w7.heap.size, 2, none⟩ = some (.int .i64 d) := by rw [hV]; simp [go_sem]
    have lV : w7.heap.size < V7.heap.size := by rw [hV]; simp
    have HB7 := Lib.hid (below_next HB6.out HB6.out.size (below_next hb hb.size hbV))
    have key := redeem_any 1 h b V7 (HT6.out.below (below_next hb hb.size hbV)) HFh.out ⟨by omega, by omega⟩
    rw [HRV.out, hrd] at key
    rw [show timeV (some (a, b, d)) 2 b = ((a, b, d, 2), 0) from if_neg (by omega)] at key
    clear hb hbV HB6 HT6 HRV htk hrd hrg
    go_wp2_with fail
    rw [← hV]
    clear hV
    refine key.mono ?_
    clear key
    rintro e w8 ⟨rfl, hb⟩
    have y0 := later_cell hb x0 lV
    have y1 := later_cell hb x1 lV
    have y2 := later_cell hb x2 lV
    have l8 : w7.heap.size < w8.heap.size := by have := hb.size; omega
    have HB8 := Lib.hid (below_next HB7.out HB7.out.size (below_next hb hb.size (below_new (.cells #[.int .i64 a, .int .i64 b, .int .i64 d, .int .i64 2] 29))))
    have key := awake17_any _ (HZ.out.later HB8.out)
    clear hb HB7 x0 x1 x2
    go_wp2_with fail
    refine key.mono ?_
    clear key
    rintro e w9 ⟨rfl, hb⟩
    have HB9 := Lib.hid (below_next HB8.out HB8.out.size hb)
    clear hb
    go_wp2_with fail
    go_ret
    exact ⟨rfl, HB9.out⟩
theorem reads_row {A : Option Addr} {n c : Nat} (w : World) (hz : Tz w) (h : ∃ xs, Rds w.heap.size w .u8 A n c xs ∧ Byt xs) :
    Calls Tryd.prog 4 #[.slice A n c] w fun e w' => e = .returned (.bool true) ∧ Below w.heap.size w w' := by
  obtain ⟨xs, hr, hb⟩ := h
  exact reads_walk w hz A n c xs hr hb
end Go.Proofs.YtbcicfgffjgpdaaDoor
