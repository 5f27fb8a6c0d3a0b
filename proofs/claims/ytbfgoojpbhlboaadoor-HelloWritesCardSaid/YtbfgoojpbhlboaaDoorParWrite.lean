/- Write (layer 7), if Right is known. No condition but the table of bit places. -/
import Derived.Test.YtbfgoojpbhlboaaDoorParAt
import Derived.Deep.RegionHeld3
set_option linter.unusedVariables false
set_option linter.unusedSimpArgs false
namespace Go.Proofs.YtbfgoojpbhlboaaDoor
open Go Go.RowKit

set_option maxHeartbeats 3200000 in
set_option maxRecDepth 100000 in
theorem write_any {B : Nat} (p : Par) (s : ParS) (w : World) (h : ParAt B w p s) (hl : p.goal.length ≤ 50 ∧ p.own.length ≤ 50 ∧ p.retry.length ≤ 50 ∧ p.vs.length ≤ 30) (ht : Tz w)
    (hR : ∀ W, ParAt B W p s → Calls Tryd.prog 16 #[.agg (parCs p s)] W (RightPost p W)) :
    Calls Tryd.prog 14 #[.agg (parCs p s)] w (BytesPost (writeP p) w) := by
  have H := Lib.hid h
  have HT := Lib.hid ht
  have HR := Lib.hid hR
  clear h ht hR
  have key := HR.out (w.alloc (.cells (parCs p s) 27)) (H.out.below (below_new _))
  unfold parCs at key ⊢
  go_enter Tryd.func14, Tryd.ntmps14
  go_wp2_with fail
  refine key.mono ?_
  clear key
  rintro e w1 ⟨rfl, hb⟩
  have PB : Hid (ParB w1 w.heap.size p s) := (hb.block _ (by simp)).trans (heap_alloc_new w _)
  have hb' : Below w.heap.size w w1 := below_next (below_new (w := w) _) (by simp) hb
  have HB1 := Lib.hid hb'
  have H1 := Lib.hid (H.out.below hb')
  have HT1 := Lib.hid (HT.out.later hb')
  clear hb hb'
  by_cases hr : rightP p
  · have HW : Hid (writeP p = writeB p) := if_pos hr
    rw [decide_eq_true hr]
    have HRP := Lib.hid hr
    clear hr
    obtain ⟨w2, hw2⟩ : ∃ u, u = w1.alloc (.cells #[.slice none 0 0] 22) := ⟨_, rfl⟩
    have hbn : Below w1.heap.size w1 w2 := by rw [hw2]; exact below_new _
    have hs2 : w2.heap.size = w1.heap.size + 1 := by rw [hw2]; simp
    have lP := lt_of_get PB.out
    have HO2 : Hid (OutAt w2 w1.heap.size w2.heap.size []) := ⟨.slice none 0 0, by rw [hw2]; exact heap_alloc_new w1 _, OwnI.nil _ _ _⟩
    have PB2 := Lib.hid (PB.out.later hbn lP)
    have HB2 := Lib.hid (below_next HB1.out HB1.out.size hbn)
    have H2 := Lib.hid (H1.out.below hbn)
    have HT2 := Lib.hid (HT.out.later HB2.out)
    have HL := Lib.hid hl
    obtain ⟨⟨c2, c5⟩, -⟩ := PB2.out.names
    rw [hw2] at c2 c5
    obtain ⟨g, hg⟩ : ∃ g, g = w1.heap.size := ⟨_, rfl⟩
    have key := wname_any 0 p.hg s.gA p.goal.length s.gc p.goal g [] w2 (by rw [hg]; exact HO2.out) (by omega) (Nat.le_refl _) H2.out.goal (by simp) (by omega) HT2.out
    have LG : Hid (w.heap.size < g) := by show _ < _; omega
    clear hbn hs2 lP PB H1 HT1
    go_wp2_with fail
    rw [← hw2, ← hg]
    clear hw2 c2 c5
    rw [← hg] at HO2
    clear hg
    refine key.mono ?_
    clear key
    rintro e w3 ⟨rfl, ho, hb, hs⟩
    have LG2 : Hid (g < w2.heap.size) := by have := HO2.out; obtain ⟨v, hv, -⟩ := this; exact lt_of_get hv
    have PB3 := Lib.hid (PB2.out.later hb LG.out)
    have HB3 : Hid (Below w.heap.size w w3) := HB2.out.trans (hb.mono (Nat.le_of_lt LG.out))
    have H3 := Lib.hid (H.out.below HB3.out)
    have HT3 := Lib.hid (HT.out.later HB3.out)
    obtain ⟨os, hos⟩ : ∃ l, l = nameB 0 p.hg p.goal := ⟨_, rfl⟩
    rw [List.nil_append, ← hos] at ho
    have HOs := Lib.hid hos
    have HO3 := Lib.hid ho
    have HS3 := Lib.hid hs
    clear ho hb hs hos
    go_wp2_with fail
    have HN3 : Hid (os.length ≤ 70) := by
      show _ ≤ _
      rw [HOs.out]; unfold nameB fieldB giveB
      have e1 := sizeV_le8 0; have e2 := sizeV_le8 p.goal.length
      split <;> simp [varB_len] <;> omega
    obtain ⟨ys3, hys⟩ : ∃ ys, ys = varB p.idle := ⟨_, rfl⟩
    have HYs3 := Lib.hid hys
    have HYl3 : Hid (ys3.length ≤ 8) := by show _ ≤ _; rw [hys, varB_len]; exact sizeV_le8 _
    clear hys
    obtain ⟨A6, c6, o1, o2, o3, o4⟩ := HO3.out.cell
    have i0 : w3.cell? ⟨w.heap.size, 0, none⟩ = some (.int .i64 p.idle) := PB3.out.cell 0
    have HOo := Lib.hid o2
    have HOb := Lib.hid o3
    have HD : Hid (Below w3.heap.size w3 w3.drew) := (Below.refl _ _).drew
    have HLg := Lib.hid (lt_of_get o3)
    have q00 : w3.drew.cell? ⟨g, 0, none⟩ = some (.slice A6 os.length c6) := o1
    have q01 : w3.drew.cell? ⟨w.heap.size, 0, none⟩ = some (.int .i64 p.idle) := i0
    clear o2 o3 i0
    go_region_law ((go_simp; first
    | (go_at_call 36
       have h0 := HD
       have key := vappend_any none 0 0 [] p.idle w3.drew ((OwnI.nil _ 0 _).rds (B' := 0)) (by omega) (HT3.out.later HD.out)
       rw [List.nil_append, ← HYs3.out] at key
       refine key.mono ?_
       clear key
       rintro e w4 ⟨v4, rfl, h4, hb4⟩
       obtain ⟨A4, c4, rfl⟩ := h4.slice
       have HB4 := Lib.hid (below_next HD.out HD.out.size hb4)
       have q10 := later_cell HB4.out q00 HLg.out
       have q11 := later_cell HB4.out q01 (lt_of_get PB3.out)
       have HV4 := Lib.hid (h4.rds (B' := 0))
       have HT4 := Lib.hid (HT3.out.later HB4.out)
       clear h0 HD h4 hb4)
    | (go_at_call 35
       have h0 := HV4
       have key := field_any A6 os.length c6 os 1 A4 ys3.length c4 ys3 w4 ((HOo.out.below HB4.out).rds (B' := 0)) HV4.out (by have := HN3.out; omega) (by have := HYl3.out; omega) HT4.out
       obtain ⟨zs, hzs⟩ : ∃ u_, u_ = os ++ fieldB 1 ys3 := ⟨_, rfl⟩
       rw [← hzs] at key
       have HZ6 := Lib.hid hzs
       refine key.mono ?_
       clear key
       rintro e w5 ⟨v5, rfl, h5, hb5⟩
       obtain ⟨A5, c5, rfl⟩ := h5.slice
       have HB5 := Lib.hid (below_next HB4.out HB4.out.size hb5)
       have y0 := later_cell hb5 q10 (Nat.lt_of_lt_of_le HLg.out HB4.out.size)
       have y1 := frozen_later HB5.out (a := ⟨g, 0, none⟩) HLg.out o4
       have HO5 : Hid (OutAt (w5.setCell ⟨g, 0, none⟩ (.slice A5 zs.length c5)) g w2.heap.size zs) := out_set (w' := w5) ((HB5.out.block g HLg.out).trans HOb.out) (h5.mono (Nat.le_trans HS3.out HB4.out.size)) LG2.out
       clear h0 HV4 h5 hb5 hzs)))
    all_goals
      obtain ⟨w6, hwb⟩ : ∃ u, u = w5.setCell ⟨g, 0, none⟩ (.slice A5 zs.length c5) := ⟨_, rfl⟩
      have hbb : Below g w3 w6 := by rw [hwb]; exact (HB5.out.mono (Nat.le_of_lt HLg.out)).setCell (Nat.le_refl _) _
      have hsb : w3.heap.size ≤ w6.heap.size := by rw [hwb]; have := HB5.out.size; simpa [World.setCell] using this
      have PB6 := Lib.hid (PB3.out.later hbb LG.out)
      have HB6 : Hid (Below w.heap.size w w6) := HB3.out.trans (hbb.mono (Nat.le_of_lt LG.out))
      have HT6 := Lib.hid (HT.out.later HB6.out)
      have HS6 := Lib.hid (Nat.le_trans HS3.out hsb)
      have HO6 : Hid (OutAt w6 g w2.heap.size zs) := by rw [hwb]; exact HO5.out
      have HN6 : Hid (zs.length ≤ 100) := by
        show _ ≤ _
        rw [HZ6.out]
        have e1 := HN3.out
        have e2 := HYl3.out
        have e3 := sizeV_le8 1
        have e4 := sizeV_le8 ys3.length
        simp [fieldB, giveB, varB_len]
        omega
      rw [← hwb]
      clear hwb hbb hsb HO5 y0 y1 HB5 HT4 HB4 HOo HOb HLg o1 o4 q00 q01 q10 q11 HB3 HT3 HS3 HO3 PB3
      go_wp2_with fail
      obtain ⟨ys6, hys⟩ : ∃ ys, ys = varB p.data := ⟨_, rfl⟩
      have HYs6 := Lib.hid hys
      have HYl6 : Hid (ys6.length ≤ 8) := by show _ ≤ _; rw [hys, varB_len]; exact sizeV_le8 _
      clear hys
      obtain ⟨A6, c6, o1, o2, o3, o4⟩ := HO6.out.cell
      have i0 : w6.cell? ⟨w.heap.size, 1, none⟩ = some (.int .i64 p.data) := PB6.out.cell 1
      have HOo := Lib.hid o2
      have HOb := Lib.hid o3
      have HD : Hid (Below w6.heap.size w6 w6.drew) := (Below.refl _ _).drew
      have HLg := Lib.hid (lt_of_get o3)
      have q00 : w6.drew.cell? ⟨g, 0, none⟩ = some (.slice A6 zs.length c6) := o1
      have q01 : w6.drew.cell? ⟨w.heap.size, 1, none⟩ = some (.int .i64 p.data) := i0
      clear o2 o3 i0
      go_region_law ((go_simp; first
      | (go_at_call 36
         have h0 := HD
         have key := vappend_any none 0 0 [] p.data w6.drew ((OwnI.nil _ 0 _).rds (B' := 0)) (by omega) (HT6.out.later HD.out)
         rw [List.nil_append, ← HYs6.out] at key
         refine key.mono ?_
         clear key
         rintro e w4 ⟨v4, rfl, h4, hb4⟩
         obtain ⟨A4, c4, rfl⟩ := h4.slice
         have HB4 := Lib.hid (below_next HD.out HD.out.size hb4)
         have q10 := later_cell HB4.out q00 HLg.out
         have q11 := later_cell HB4.out q01 (lt_of_get PB6.out)
         have HV4 := Lib.hid (h4.rds (B' := 0))
         have HT4 := Lib.hid (HT6.out.later HB4.out)
         clear h0 HD h4 hb4)
      | (go_at_call 35
         have h0 := HV4
         have key := field_any A6 zs.length c6 zs 4 A4 ys6.length c4 ys6 w4 ((HOo.out.below HB4.out).rds (B' := 0)) HV4.out (by have := HN6.out; omega) (by have := HYl6.out; omega) HT4.out
         obtain ⟨us, hzs⟩ : ∃ u_, u_ = zs ++ fieldB 4 ys6 := ⟨_, rfl⟩
         rw [← hzs] at key
         have HZ7 := Lib.hid hzs
         refine key.mono ?_
         clear key
         rintro e w5 ⟨v5, rfl, h5, hb5⟩
         obtain ⟨A5, c5, rfl⟩ := h5.slice
         have HB5 := Lib.hid (below_next HB4.out HB4.out.size hb5)
         have y0 := later_cell hb5 q10 (Nat.lt_of_lt_of_le HLg.out HB4.out.size)
         have y1 := frozen_later HB5.out (a := ⟨g, 0, none⟩) HLg.out o4
         have HO5 : Hid (OutAt (w5.setCell ⟨g, 0, none⟩ (.slice A5 us.length c5)) g w2.heap.size us) := out_set (w' := w5) ((HB5.out.block g HLg.out).trans HOb.out) (h5.mono (Nat.le_trans HS6.out HB4.out.size)) LG2.out
         clear h0 HV4 h5 hb5 hzs)))
      all_goals
        obtain ⟨w7, hwb⟩ : ∃ u, u = w5.setCell ⟨g, 0, none⟩ (.slice A5 us.length c5) := ⟨_, rfl⟩
        have hbb : Below g w6 w7 := by rw [hwb]; exact (HB5.out.mono (Nat.le_of_lt HLg.out)).setCell (Nat.le_refl _) _
        have hsb : w6.heap.size ≤ w7.heap.size := by rw [hwb]; have := HB5.out.size; simpa [World.setCell] using this
        have PB7 := Lib.hid (PB6.out.later hbb LG.out)
        have HB7 : Hid (Below w.heap.size w w7) := HB6.out.trans (hbb.mono (Nat.le_of_lt LG.out))
        have HT7 := Lib.hid (HT.out.later HB7.out)
        have HS7 := Lib.hid (Nat.le_trans HS6.out hsb)
        have HO7 : Hid (OutAt w7 g w2.heap.size us) := by rw [hwb]; exact HO5.out
        have HN7 : Hid (us.length ≤ 130) := by
          show _ ≤ _
          rw [HZ7.out]
          have e1 := HN6.out
          have e2 := HYl6.out
          have e3 := sizeV_le8 4
          have e4 := sizeV_le8 ys6.length
          simp [fieldB, giveB, varB_len]
          omega
        rw [← hwb]
        clear hwb hbb hsb HO5 y0 y1 HB5 HT4 HB4 HOo HOb HLg o1 o4 q00 q01 q10 q11 HB6 HT6 HS6 HO6 PB6
        obtain ⟨-, ⟨cc, dd⟩, -⟩ := PB7.out.names
        have key := wname_any 15 p.ho s.oA p.own.length s.oc p.own g us w7 HO7.out LG2.out HS7.out (H.out.below HB7.out).own (by have := HN7.out; omega) (by have := HL.out; omega) HT7.out
        go_wp2_with fail
        refine key.mono ?_
        clear key cc dd
        rintro e w8 ⟨rfl, ho, hb, hs⟩
        have PB8 := Lib.hid (PB7.out.later hb LG.out)
        have HB8 : Hid (Below w.heap.size w w8) := HB7.out.trans (hb.mono (Nat.le_of_lt LG.out))
        have HT8 := Lib.hid (HT.out.later HB8.out)
        have HS8 := Lib.hid (Nat.le_trans HS7.out hs)
        obtain ⟨vs, hos⟩ : ∃ u_, u_ = us ++ nameB 15 p.ho p.own := ⟨_, rfl⟩
        rw [← hos] at ho
        have HZ8 := Lib.hid hos
        have HO8 := Lib.hid ho
        have HN8 : Hid (vs.length ≤ 210) := by
          show _ ≤ _
          rw [HZ8.out]
          have e1 := HN7.out
          have e0 := HL.out
          have e3 := sizeV_le8 15
          have e4 := sizeV_le8 p.own.length
          unfold nameB fieldB giveB
          split <;> simp [varB_len] <;> omega
        clear ho hb hs hos HO7 HB7 HT7 HS7 PB7
        obtain ⟨-, -, ⟨cc, dd⟩⟩ := PB8.out.names
        have key := wname_any 16 p.hr s.rA p.retry.length s.rc p.retry g vs w8 HO8.out LG2.out HS8.out (H.out.below HB8.out).retry (by have := HN8.out; omega) (by have := HL.out; omega) HT8.out
        go_wp2_with fail
        refine key.mono ?_
        clear key cc dd
        rintro e w9 ⟨rfl, ho, hb, hs⟩
        have PB9 := Lib.hid (PB8.out.later hb LG.out)
        have HB9 : Hid (Below w.heap.size w w9) := HB8.out.trans (hb.mono (Nat.le_of_lt LG.out))
        have HT9 := Lib.hid (HT.out.later HB9.out)
        have HS9 := Lib.hid (Nat.le_trans HS8.out hs)
        obtain ⟨xs, hos⟩ : ∃ u_, u_ = vs ++ nameB 16 p.hr p.retry := ⟨_, rfl⟩
        rw [← hos] at ho
        have HZ9 := Lib.hid hos
        have HO9 := Lib.hid ho
        have HN9 : Hid (xs.length ≤ 290) := by
          show _ ≤ _
          rw [HZ9.out]
          have e1 := HN8.out
          have e0 := HL.out
          have e3 := sizeV_le8 16
          have e4 := sizeV_le8 p.retry.length
          unfold nameB fieldB giveB
          split <;> simp [varB_len] <;> omega
        clear ho hb hs hos HO8 HB8 HT8 HS8 PB8
        have c8 : w9.cell? ⟨w.heap.size, 8, none⟩ = some (.int .i64 p.chosen) := PB9.out.cell 8
        have key := big4_any p.chosen (by have := HRP.out.1.2.2.1; omega) w9
        go_wp2_with fail
        refine key.mono ?_
        clear key c8
        rintro e w10 ⟨v10, rfl, hv10, hb10⟩
        have c9 : w10.cell? ⟨w.heap.size, 9, none⟩ = some (.slice s.vA p.vs.length s.vc) := (PB9.out.later hb10 (lt_of_get PB9.out)).cell 9
        have HV10 := Lib.hid hv10
        have HB10 := Lib.hid hb10
        have HLV : Hid (p.vs.length ≤ 30) := hl.2.2.2
        clear hv10 hb10
        go_wp2_with fail
        clear c9
        go_loopw [5, 46] (fun v i wr => ∃ k : Nat, k ≤ p.vs.length ∧ i = .int .i64 k ∧ OwnI wr w9.heap.size .u8 v (bigL (p.chosen :: p.vs.take k)) ∧ Below w9.heap.size w9 wr) (fun _ i _ => p.vs.length - (intOf i).toNat)
        case atStart => exact ⟨0, Nat.zero_le _, rfl, by have := HV10.out; simpa [bigL] using this, HB10.out⟩
        case round =>
          obtain ⟨k, hk, rfl, hv, hb⟩ := hrel
          have HV := Lib.hid hv
          have HB := Lib.hid hb
          have HBr : Hid (Below w.heap.size w wr) := below_next HB9.out HB9.out.size hb
          clear hv hb
          by_cases hlt : k < p.vs.length
          · have HR := Lib.hid ((H.out.below HBr.out).vs)
            obtain ⟨b, o, hA, hcx⟩ := RdI.at_ HR.out.cell (by omega)
            have g1 := hcx k (by omega)
            clear hcx
            have hk0 : (0 : Int) ≤ (k : Int) := by omega
            have hk1 : (k : Int) < (p.vs.length : Int) := by omega
            have hvk : 0 ≤ nth p.vs k := by
              have := (HRP.out.2.2.2.1 _ (nth_mem hlt)).1
              omega
            have key := big4_any (nth p.vs k) hvk wr
            rw [hA]
            go_wp2_with fail
            refine key.mono ?_
            clear key
            rintro e w11 ⟨v11, rfl, hv11, hb11⟩
            obtain ⟨A11, c11, rfl⟩ := hv11.slice
            have R11 := Lib.hid (hv11.rds (B' := 0)).cell
            have HV11 := Lib.hid (HV.out.below hb11)
            have HB11 := Lib.hid (below_next HB.out HB.out.size hb11)
            have hle : (bigL (p.chosen :: p.vs.take k)).length ≤ 1000 := by have := HLV.out; rw [bigL_len]; simp; omega
            rw [bigB_len] at *
            clear hv11 hb11 g1 hvk
            go_wp2_with (at_builtin; refine wp_app_u8 rfl _ _ rfl rfl rfl HV11.out R11.out (bigB_len _) HB11.out.size (by omega) ?_)
            intro v' w12 hv12 hg12 hb12
            have HV12 : Hid (OwnI w12 w9.heap.size .u8 v' (bigL (p.chosen :: p.vs.take (k + 1)))) := by
              rw [take_nth_succ hlt, ← List.cons_append, bigL_snoc]
              exact hv12
            have HB12 := Lib.hid (HB11.out.trans hb12)
            clear hv12 hg12 hb12 hle
            go_wp2_with fail
            go_roundw
            case rel => exact ⟨k + 1, by omega, by go_num, HV12.out, HB12.out⟩
            case measure => simp [intOf]; omega
          · obtain rfl : k = p.vs.length := by omega
            obtain ⟨A6, c6, o1, o2, o3, o4⟩ := HO9.out.cell
            have lg := lt_of_get o3
            have x0 : wr.cell? ⟨g, 0, none⟩ = some (.slice A6 xs.length c6) := later_cell HB.out o1 lg
            obtain ⟨A13, c13, rfl⟩ := HV.out.slice
            obtain ⟨ls, hls⟩ : ∃ ls, ls = bigL (p.chosen :: p.vs.take p.vs.length) := ⟨_, rfl⟩
            have hll : ls.length ≤ 1000 := by have := HLV.out; rw [hls, bigL_len]; simp; omega
            have HLS := Lib.hid hls
            rw [← hls] at HV ⊢
            have key := field_any A6 xs.length c6 xs 17 A13 ls.length c13 ls wr ((o2.below HB.out).rds (B' := 0)) (HV.out.rds (B' := 0)) (by have := HN9.out; omega) (by omega) (HT.out.later HBr.out)
            obtain ⟨fs, hfs⟩ : ∃ fs, fs = xs ++ fieldB 17 ls := ⟨_, rfl⟩
            rw [← hfs] at key
            have HFS := Lib.hid hfs
            clear hls hfs hll o1 o2 o3 o4 lg
            go_wp2_with fail
            refine key.mono ?_
            clear key
            rintro e w14 ⟨v14, rfl, hv14, hb14⟩
            have HV14 := Lib.hid hv14
            have HB14 := Lib.hid hb14
            clear hv14 hb14
            go_wp2_with fail
            go_ret
            refine ⟨_, rfl, ?_, below_next HBr.out HBr.out.size HB14.out⟩
            have e : writeP p = fs := by
              rw [HW.out, HFS.out, HLS.out, HZ9.out, HZ8.out, HZ7.out, HZ6.out, HOs.out, HYs3.out, HYs6.out, List.take_length]
              rfl
            rw [e]
            exact HV14.out.mono HBr.out.size
  · have HW : Hid (writeP p = []) := if_neg hr
    rw [decide_eq_false hr]
    clear hr
    go_wp2_with fail
    go_ret
    rw [HW.out]
    exact BytesPost.nil HB1.out
end Go.Proofs.YtbfgoojpbhlboaaDoor
