/- The walk of TicketOthers. No condition but the table of bit places. -/
import Derived.Test.YtbcicfgffjgpdaaDoorTicketIssues
import Derived.Test.YtbcicfgffjgpdaaDoorTicketOthers0
import Derived.Deep.RegionHeldLaw
set_option linter.unusedVariables false
set_option linter.unusedSimpArgs false
namespace Go.Proofs.YtbcicfgffjgpdaaDoor
open Go Go.RowKit Go.WideMaps

set_option maxHeartbeats 6400000 in
set_option maxRecDepth 100000 in
theorem others_walk (w : World) (hz : Tz w) (A0 : Option Addr) (n0 c0 : Nat) (hs : List Int) (hr0 : Rds w.heap.size w .u8 A0 n0 c0 hs) (v t l : Int) (hft : Fit t) :
    Calls Tryd.prog 5 #[.slice A0 n0 c0, .agg #[.int .i64 v, .int .i64 t, .int .i64 l]] w (AwakePost w) := by
  have HZ := Lib.hid hz
  have HH := Lib.hid hr0
  have HFt := Lib.hid hft
  have HHl := Lib.hid hr0.len
  obtain ⟨W, hW⟩ : ∃ W, W = w.alloc (.cells #[.int .i64 v, .int .i64 t, .int .i64 l] 23) := ⟨_, rfl⟩
  have HBW : Hid (Below w.heap.size w W) := by rw [hW]; exact below_new _
  have HX : Hid (Tk3At W w.heap.size v t l) := by rw [hW]; exact heap_alloc_new w _
  clear hz hr0 hft
  go_enter Tryd.func5, Tryd.ntmps5
  by_cases k0 : 50 < n0
  · go_wp2_with fail
    rw [← hW]
    go_ret
    exact ⟨rfl, HBW.out⟩
  go_wp2_with fail
  rw [← hW]
  clear hW
  refine (new_any W).mono ?_
  rintro e w1 ⟨tb, rfl, ht1, hb1⟩
  have HX1 := Lib.hid (HX.out.later hb1 HX.out.lt)
  have HB1 := Lib.hid (below_next HBW.out HBW.out.size hb1)
  have HSW := Lib.hid HBW.out.size
  have key := secret_any w1 ht1
  clear hb1 ht1 HX HBW
  go_wp2_with fail
  refine key.mono ?_
  clear key
  rintro e w2 p
  obtain ⟨rfl, ht, hf⟩ := p.intro sec1
  have HX2 := Lib.hid (HX1.out.frm hf)
  have HB2 := Lib.hid (HB1.out.trans ((hf.weak HSW.out).below HB1.out.size))
  have key := secret_any w2 ht
  clear p ht hf HB1 HX1
  go_wp2_with fail
  refine key.mono ?_
  clear key
  rintro e w3 p
  obtain ⟨rfl, ht, hf⟩ := p.intro sec2
  have HX3 := Lib.hid (HX2.out.frm hf)
  have HB3 := Lib.hid (HB2.out.trans ((hf.weak HSW.out).below HB2.out.size))
  have HT3 := Lib.hid ht
  have y0 := HX3.out.x0
  have y1 := HX3.out.x1
  have y2 := HX3.out.x2
  have key := r17text_any v t l w3
  clear p ht hf HB2 HX2
  go_wp2_with fail
  refine key.mono ?_
  clear key
  rintro e w4 ⟨v4, rfl, ho, hb⟩
  obtain ⟨A4, c4, rfl⟩ := ho.slice
  have HX4 := Lib.hid (HX3.out.later hb HX3.out.lt)
  have HB4 := Lib.hid (below_next HB3.out HB3.out.size hb)
  have HT4 := Lib.hid (HT3.out.below hb)
  clear y0 y1 y2 HX3 HB3 HT3
  by_cases hsz : sizeV v = 0 ∨ sizeV t = 0 ∨ sizeV l = 0
  · rw [textV_no hsz] at *
    have key := awake17_any w4 (HZ.out.later HB4.out)
    simp only [List.length_nil] at *
    clear ho hb hsz
    go_wp2_with fail
    refine key.mono ?_
    clear key
    rintro e w6 ⟨rfl, hb⟩
    have HB6 := Lib.hid (below_next HB4.out HB4.out.size hb)
    clear hb
    go_wp2_with fail
    go_ret
    exact ⟨rfl, HB6.out⟩
  have HSZ := Lib.hid hsz
  have hlen := textV_len hsz
  have hl8 : (textV v t l).length ≤ 24 := by have := sizeV_le v; have := sizeV_le t; have := sizeV_le l; omega
  have hlpos : 0 < (textV v t l).length := by omega
  obtain ⟨zs, hzs⟩ : ∃ zs, zs = textV v t l := ⟨_, rfl⟩
  rw [← hzs] at ho hl8 hlpos ⊢
  have HZS := Lib.hid hzs
  have hlb : ((zs.length : Int) == 0) = false := by rw [beq_eq_false_iff_ne]; omega
  have hzz : (strOfNums zs).size ≤ 2048 := by rw [strOfNums_size]; omega
  -- the text and the rows
  have g1 := text_get (T := [secN, secN]) (b := strOfNums zs) hzz (by decide)
  have x1 := textT_ext [secN, secN] (strOfNums zs)
  have u1 := wf_text HT4.out.1 (strOfNums zs)
  have key := text_any A4 _ c4 zs w4 HT4.out (ho.rds (B' := 0))
  clear hzs hlen hb hsz
  go_wp2_with fail
  refine key.mono ?_
  clear key
  rintro e w5 p
  obtain ⟨⟨T5, h5⟩, e5⟩ : ∃ r, textT [secN, secN] (strOfNums zs) = r := ⟨_, rfl⟩
  rw [e5] at g1 x1 u1
  simp only at g1 x1 u1
  obtain ⟨rfl, ht, hf⟩ := p.intro e5
  have n5 := x1.len
  simp only [List.length_cons, List.length_nil] at n5
  have HX5 := Lib.hid (HX4.out.frm hf)
  have HB5 := Lib.hid (HB4.out.trans ((hf.weak HSW.out).below HB4.out.size))
  have HG5 := Lib.hid g1
  have HI1 : Hid (In T5 1) := sec_in21.ext x1
  have HI2 : Hid (In T5 2) := sec_in22.ext x1
  have HS2' : Hid (getT T5 2 = some secN) := x1.get (show getT [secN, secN] 2 = some secN from rfl)
  have HF5 := Lib.hid (fit_in ht.1 (.of g1))
  have HN5 := Lib.hid n5
  have g2 := make_row u1 (by omega) (p := [h5, 2]) (by simp; exact ⟨.of g1, HI2.out⟩) (by simp)
  have x2 := makeT_ext T5 3 [h5, 2]
  have key := make_fit (g := w5.heap.size) (t := 26) 3 [h5, 2] w5 ht rfl (by simp; exact ⟨HF5.out, ⟨by decide, by decide⟩⟩) (by simp) _ rfl (by decide) 2 rfl
  clear p e5 ht hf HX4 HB4 HT4 g1 x1 u1 n5 ho
  go_wp2_with fail
  refine key.mono ?_
  clear key
  rintro e w6 p
  obtain ⟨⟨T6, r6⟩, e6⟩ : ∃ r, makeT T5 3 [h5, 2] = r := ⟨_, rfl⟩
  rw [e6] at g2 x2
  simp only at g2 x2
  obtain ⟨rfl, ht, hf⟩ := p.intro e6
  have n6 := x2.len
  have HX6 := Lib.hid (HX5.out.frm hf)
  have HB6 := Lib.hid (HB5.out.trans ((hf.weak HSW.out).below HB5.out.size))
  have HG6 := Lib.hid g2
  have X6 := Lib.hid x2
  have N6 : Hid (T6.length ≤ 4) := by show _ ≤ _; have := HN5.out; omega
  have g3 := make_row ht.1 (by have := N6.out; omega) (p := [h5]) (by simp; exact (In.of HG5.out).ext x2) (by simp)
  have x3 := makeT_ext T6 3 [h5]
  have key := make_fit (g := w6.heap.size) (t := 26) 3 [h5] w6 ht rfl (by simp; exact HF5.out) (by simp) _ rfl (by decide) 1 rfl
  clear p e6 ht hf HX5 HB5 g2 x2 n6 HN5
  go_wp2_with fail
  refine key.mono ?_
  clear key
  rintro e w7 p
  obtain ⟨⟨T7, r7⟩, e7⟩ : ∃ r, makeT T6 3 [h5] = r := ⟨_, rfl⟩
  rw [e7] at g3 x3
  simp only at g3 x3
  obtain ⟨rfl, ht, hf⟩ := p.intro e7
  have n7 := x3.len
  have HX7 := Lib.hid (HX6.out.frm hf)
  have HB7 := Lib.hid (HB6.out.trans ((hf.weak HSW.out).below HB6.out.size))
  have HG7 := Lib.hid g3
  have X7 := Lib.hid x3
  have N7 : Hid (T7.length ≤ 5) := by show _ ≤ _; have := N6.out; omega
  have g4 := make_row ht.1 (by have := N7.out; omega) (p := [2, h5]) (by simp; exact ⟨(HI2.out.ext X6.out).ext x3, ((In.of HG5.out).ext X6.out).ext x3⟩) (by simp)
  have x4 := makeT_ext T7 3 [2, h5]
  have key := make_fit (g := w7.heap.size) (t := 26) 3 [2, h5] w7 ht rfl (by simp; exact ⟨⟨by decide, by decide⟩, HF5.out⟩) (by simp) _ rfl (by decide) 2 rfl
  clear p e7 ht hf HX6 HB6 g3 x3 n7 N6
  go_wp2_with fail
  refine key.mono ?_
  clear key
  rintro e w8 p
  obtain ⟨⟨T8, r8⟩, e8⟩ : ∃ r, makeT T7 3 [2, h5] = r := ⟨_, rfl⟩
  rw [e8] at g4 x4
  simp only at g4 x4
  obtain ⟨rfl, ht, hf⟩ := p.intro e8
  have n8 := x4.len
  have HX8 := Lib.hid (HX7.out.frm hf)
  have HB8 := Lib.hid (HB7.out.trans ((hf.weak HSW.out).below HB7.out.size))
  have HG8 := Lib.hid g4
  have X8 := Lib.hid x4
  have N8 : Hid (T8.length ≤ 6) := by show _ ≤ _; have := N7.out; omega
  have X58 := Lib.hid ((X6.out.trans X7.out).trans X8.out)
  have g5 := make_row ht.1 (by have := N8.out; omega) (p := [h5, 2, 2]) (by simp; exact ⟨(In.of HG5.out).ext X58.out, HI2.out.ext X58.out⟩) (by simp)
  have x5 := makeT_ext T8 3 [h5, 2, 2]
  have key := make_fit (g := w8.heap.size) (t := 26) 3 [h5, 2, 2] w8 ht rfl (by simp; exact ⟨HF5.out, ⟨by decide, by decide⟩⟩) (by simp) _ rfl (by decide) 3 rfl
  clear p e8 ht hf HX7 HB7 g4 x4 n8 N7
  go_wp2_with fail
  refine key.mono ?_
  clear key
  rintro e w9 p
  obtain ⟨⟨T9, r9⟩, e9⟩ : ∃ r, makeT T8 3 [h5, 2, 2] = r := ⟨_, rfl⟩
  rw [e9] at g5 x5
  simp only at g5 x5
  obtain ⟨rfl, ht, hf⟩ := p.intro e9
  have n9 := x5.len
  obtain ⟨w10, hw10⟩ : ∃ u, u = w9.alloc (.cells #[.int .i64 r7, .int .i64 r8, .int .i64 r9, .int .i64 h5] 26) := ⟨_, rfl⟩
  have hbn : Below w9.heap.size w9 w10 := by rw [hw10]; exact below_new _
  have HX10 := Lib.hid ((HX8.out.frm hf).later hbn (HX8.out.frm hf).lt)
  have HB9 := HB8.out.trans ((hf.weak HSW.out).below HB8.out.size)
  have HB10 := Lib.hid (below_next HB9 HB9.size hbn)
  have HT10 := Lib.hid (ht.below hbn)
  have HR10 : Hid (FourAt w10 w9.heap.size r7 r8 r9 h5) := by rw [hw10]; exact heap_alloc_new w9 _
  have N9 : Hid (T9.length ≤ 7) := by show _ ≤ _; have := N8.out; omega
  have X9 := Lib.hid x5
  have X79 := Lib.hid (X8.out.trans X9.out)
  have X69 := Lib.hid (X7.out.trans X79.out)
  have X59 := Lib.hid (X6.out.trans X69.out)
  have HBad : Hid (∀ k, k < 4 → BadRow T9 (nth [r7, r8, r9, h5] k)) := fun k hk => by
    match k, hk with
    | 0, _ => exact bad_kind (X79.out.get HG7.out) (by simp)
    | 1, _ => exact bad_text (X9.out.get HG8.out) (X59.out.get HS2'.out) (by decide)
    | 2, _ => exact bad_kind g5 (by simp)
    | 3, _ => exact bad_kind (X59.out.get HG5.out) (by simp [nT])
  have HRow := Lib.hid (X69.out.get HG6.out)
  have HTx := Lib.hid (X59.out.get HG5.out)
  have HI1' : Hid (In T9 1) := HI1.out.ext X59.out
  clear p e9 ht hf HX8 HB8 g5 x5 n9 N8 hbn HB9 HG5 HG6 HG7 HG8 X6 X7 X8 X9 X58 X79 X69 X59 HI1 HI2 HS2' HF5
  go_wp2_with fail
  rw [← hw10]
  clear hw10
  obtain ⟨gR, hgR⟩ : ∃ g, g = w9.heap.size := ⟨_, rfl⟩
  rw [← hgR] at HR10 ⊢
  clear hgR
  have BU10 : Hid (Bun w W.heap.size tb gR v t l r7 r8 r9 h5 T9 w10) := ⟨HT10.out, HX10.out, HR10.out, HB10.out⟩
  clear HT10 HX10 HR10 HB10
  go_loopw [12] (fun i wr => ∃ (k : Nat) (n : Nat) (T : List Nd), k ≤ 4 ∧ i = .int .i64 k ∧ Hid (Bun w W.heap.size tb gR v t l r7 r8 r9 h5 T wr) ∧ Hid (Ext n T9 T) ∧ T.length ≤ 7 + 2 * k) (fun i _ => 4 - (intOf i).toNat)
  case atStart => exact ⟨0, 0, T9, Nat.zero_le _, rfl, BU10.out, Ext.refl _, by have := N9.out; omega⟩
  case round =>
    obtain ⟨k, n, T, hk, rfl, BU, HE, hTl⟩ := hrel
    have HLT := Lib.hid hTl
    by_cases hlt : k < 4
    · obtain ⟨rk, hrk⟩ : ∃ r, r = nth [r7, r8, r9, h5] k := ⟨_, rfl⟩
      have hbad := HBad.out k hlt
      rw [← hrk] at hbad
      have HBk : Hid (BadRow T rk) := hbad.ext HE.out
      have HFr : Hid (Fit rk) := fit_in BU.out.tab.1 HBk.out.1
      have Q0 := Lib.hid ((BU.out.below (Below.refl _ _).drew).S hlt hrk)
      have sz := BU.out.bl.size
      have b1 : Below wr.heap.size wr (wr.alloc (.cells #[.int .u8 116, .int .u8 105, .int .u8 99, .int .u8 107, .int .u8 101, .int .u8 116] 5)).drew := (below_new _).drew
      have bA : Below wr.heap.size wr (wr.alloc (.cells #[.int .i64 0, .int .i64 0, .int .i64 0, .int .i64 0] 29)).drew := (below_new _).drew
      have b2 : Below wr.heap.size wr ((wr.alloc (.cells #[.int .u8 116, .int .u8 105, .int .u8 99, .int .u8 107, .int .u8 101, .int .u8 116] 5)).alloc (.cells #[.int .i64 0, .int .i64 0, .int .i64 0, .int .i64 0] 29)).drew := ((below_new _).alloc (by simp) _).drew
      have b3 : Below wr.heap.size wr ((wr.alloc (.cells #[.int .i64 0, .int .i64 0, .int .i64 0, .int .i64 0] 29)).alloc (.cells #[.int .u8 116, .int .u8 105, .int .u8 99, .int .u8 107, .int .u8 101, .int .u8 116] 5)).drew := ((below_new _).alloc (by simp) _).drew
      have Q1 := Lib.hid ((BU.out.below b1).S hlt hrk)
      have QA := Lib.hid ((BU.out.below bA).S hlt hrk)
      have Q2 := Lib.hid ((BU.out.below b2).S hlt hrk)
      have Q3 := Lib.hid ((BU.out.below b3).S hlt hrk)
      have x1 : ((wr.alloc (.cells #[.int .u8 116, .int .u8 105, .int .u8 99, .int .u8 107, .int .u8 101, .int .u8 116] 5)).drew).heap[wr.heap.size]? = some (.cells #[.int .u8 116, .int .u8 105, .int .u8 99, .int .u8 107, .int .u8 101, .int .u8 116] 5 (0, 0)) := heap_alloc_new wr _
      have x2 : (((wr.alloc (.cells #[.int .u8 116, .int .u8 105, .int .u8 99, .int .u8 107, .int .u8 101, .int .u8 116] 5)).alloc (.cells #[.int .i64 0, .int .i64 0, .int .i64 0, .int .i64 0] 29)).drew).heap[wr.heap.size]? = some (.cells #[.int .u8 116, .int .u8 105, .int .u8 99, .int .u8 107, .int .u8 101, .int .u8 116] 5 (0, 0)) := (Below.heap_alloc _ _ _ (by simp)).trans (heap_alloc_new wr _)
      have x3 : (((wr.alloc (.cells #[.int .i64 0, .int .i64 0, .int .i64 0, .int .i64 0] 29)).alloc (.cells #[.int .u8 116, .int .u8 105, .int .u8 99, .int .u8 107, .int .u8 101, .int .u8 116] 5)).drew).heap[wr.heap.size + 1]? = some (.cells #[.int .u8 116, .int .u8 105, .int .u8 99, .int .u8 107, .int .u8 101, .int .u8 116] 5 (0, 0)) := by
        have k := heap_alloc_new (wr.alloc (.cells #[.int .i64 0, .int .i64 0, .int .i64 0, .int .i64 0] 29)) (.cells #[.int .u8 116, .int .u8 105, .int .u8 99, .int .u8 107, .int .u8 101, .int .u8 116] 5)
        rwa [show (wr.alloc (.cells #[.int .i64 0, .int .i64 0, .int .i64 0, .int .i64 0] 29)).heap.size = wr.heap.size + 1 from by simp] at k
      obtain ⟨V1, hcv1, ⟨fr1, k1⟩, o1, c1⟩ := conv_at (n := 6) (c := 6) x1
      obtain ⟨V2, hcv2, ⟨fr2, k2⟩, o2, c2⟩ := conv_at (n := 6) (c := 6) x2
      obtain ⟨V3, hcv3, ⟨fr3, k3⟩, o3, c3⟩ := conv_at (n := 6) (c := 6) x3
      have HB1 := Lib.hid (BU.out.below (c1 _ wr (Nat.le_refl _) b1))
      have HB2 := Lib.hid (BU.out.below (c2 _ wr (Nat.le_refl _) b2))
      have HB3 := Lib.hid (BU.out.below (c3 _ wr (Nat.le_succ _) b3))
      have HL1 : Hid (Rds 0 V1 .u8 (some ⟨wr.heap.size, 0, none⟩) 6 6 ticketL) := rds_row (xs := ticketL) (B := 0) k1 (by decide) rfl 6 rfl (by decide) (Nat.zero_le _)
      have HL2 : Hid (Rds 0 V2 .u8 (some ⟨wr.heap.size, 0, none⟩) 6 6 ticketL) := rds_row (xs := ticketL) (B := 0) k2 (by decide) rfl 6 rfl (by decide) (Nat.zero_le _)
      have HL3 : Hid (Rds 0 V3 .u8 (some ⟨wr.heap.size + 1, 0, none⟩) 6 6 ticketL) := rds_row (xs := ticketL) (B := 0) k3 (by decide) rfl 6 rfl (by decide) (Nat.zero_le _)
      have HB4 := Lib.hid (HB1.out.below (below_new (.cells #[.int .i64 0, .int .i64 0, .int .i64 0, .int .i64 0] 29)))
      have HL4 := Lib.hid (HL1.out.below (below_new (.cells #[.int .i64 0, .int .i64 0, .int .i64 0, .int .i64 0] 29)))
      have Z4 : Hid (Zero4 (V1.alloc (.cells #[.int .i64 0, .int .i64 0, .int .i64 0, .int .i64 0] 29)) V1.heap.size) := zero4_new V1
      have Z2 : Hid (Zero4 V2 (wr.heap.size + 1)) := (o2 _ (by omega)).trans (by
        have k := heap_alloc_new (wr.alloc (.cells #[.int .u8 116, .int .u8 105, .int .u8 99, .int .u8 107, .int .u8 101, .int .u8 116] 5)) (.cells #[.int .i64 0, .int .i64 0, .int .i64 0, .int .i64 0] 29)
        rwa [show (wr.alloc (.cells #[.int .u8 116, .int .u8 105, .int .u8 99, .int .u8 107, .int .u8 101, .int .u8 116] 5)).heap.size = wr.heap.size + 1 from by simp] at k)
      have Z3 : Hid (Zero4 V3 wr.heap.size) := (o3 _ (by omega)).trans ((Below.heap_alloc _ _ _ (by simp)).trans (heap_alloc_new wr _))
      have P1 := Lib.hid (HB1.out.S hlt hrk)
      have P2 := Lib.hid (HB2.out.S hlt hrk)
      have P3 := Lib.hid (HB3.out.S hlt hrk)
      have P4 := Lib.hid (HB4.out.S hlt hrk)
      have HZ1 := Lib.hid HB1.out.bl.size
      have HZr := Lib.hid sz
      have HRK := Lib.hid hrk
      have hki : (k : Int) < 4 := by omega
      have hk0 : (0 : Int) ≤ (k : Int) := by omega
      clear hbad hrk b1 b2 b3 bA x1 x2 x3 k1 k2 k3 o1 o2 o3 c1 c2 c3 sz hTl
      go_wp2_with fail
      go_region_held_law (fun w' => w'.cell? ⟨gR, k, none⟩ = some (.int .i64 rk) ∧ w'.cell? ⟨w.heap.size, 1, none⟩ = some (.int .i64 t)) (first | with_reducible exact Q0.out | with_reducible exact Q1.out | with_reducible exact QA.out | with_reducible exact Q2.out | with_reducible exact Q3.out | with_reducible exact P1.out | with_reducible exact P2.out | with_reducible exact P3.out | with_reducible exact P4.out | with_reducible exact R1.out | with_reducible exact R2.out | with_reducible exact R3.out | with_reducible exact R4.out | with_reducible exact R5.out | fail) ((first
    | (go_at_call 17
       with_reducible show Calls _ _ _ V1 _
       have h0 := HB1
       have key := seal_any 1 (some ⟨wr.heap.size, 0, none⟩) 6 6 ticketL rk V1 HB1.out.tab ⟨by decide, by decide⟩ HFr.out HL1.out
       rw [ticket_str] at key
       refine key.mono ?_
       clear key
       rintro e w3 p
       obtain ⟨⟨T3, h3⟩, e3⟩ : ∃ r, sealT T 1 ticketS rk = r := ⟨_, rfl⟩
       have sa := seal_at (k := 1) (c := rk) (hd := ticketS) HB1.out.tab.1 (by decide) (by have := HLT.out; omega) (HI1'.out.ext HE.out) HBk.out.1
       have xs := sealT_ext T 1 ticketS rk
       rw [e3] at sa xs
       obtain ⟨rfl, ht, hf⟩ := p.intro e3
       have HBs := Lib.hid (HB1.out.frm ht hf HSW.out)
       have HXS := Lib.hid xs
       have HSA := Lib.hid sa
       have R1 := Lib.hid (HBs.out.S hlt HRK.out)
       have HBt := Lib.hid (HBs.out.below (below_new (.cells #[.int .i64 0, .int .i64 0, .int .i64 0, .int .i64 0] 29)))
       have R2 := Lib.hid (HBt.out.S hlt HRK.out)
       clear h0 p sa xs e3 ht hf)
    | (go_at_call 17
       with_reducible show Calls _ _ _ (V1.alloc (.cells #[.int .i64 0, .int .i64 0, .int .i64 0, .int .i64 0] 29)) _
       have h0 := HB4
       have key := seal_any 1 (some ⟨wr.heap.size, 0, none⟩) 6 6 ticketL rk (V1.alloc (.cells #[.int .i64 0, .int .i64 0, .int .i64 0, .int .i64 0] 29)) HB4.out.tab ⟨by decide, by decide⟩ HFr.out HL4.out
       rw [ticket_str] at key
       refine key.mono ?_
       clear key
       rintro e w3 p
       obtain ⟨⟨T3, h3⟩, e3⟩ : ∃ r, sealT T 1 ticketS rk = r := ⟨_, rfl⟩
       have sa := seal_at (k := 1) (c := rk) (hd := ticketS) HB4.out.tab.1 (by decide) (by have := HLT.out; omega) (HI1'.out.ext HE.out) HBk.out.1
       have xs := sealT_ext T 1 ticketS rk
       rw [e3] at sa xs
       obtain ⟨rfl, ht, hf⟩ := p.intro e3
       have HBs := Lib.hid (HB4.out.frm ht hf HSW.out)
       have HXS := Lib.hid xs
       have HSA := Lib.hid sa
       have R1 := Lib.hid (HBs.out.S hlt HRK.out)
       have ZS : Hid (Zero4 w3 V1.heap.size) := Z4.out.frm hf
       clear h0 p sa xs e3 ht hf)
    | (go_at_call 17
       with_reducible show Calls _ _ _ V2 _
       have h0 := HB2
       have key := seal_any 1 (some ⟨wr.heap.size, 0, none⟩) 6 6 ticketL rk V2 HB2.out.tab ⟨by decide, by decide⟩ HFr.out HL2.out
       rw [ticket_str] at key
       refine key.mono ?_
       clear key
       rintro e w3 p
       obtain ⟨⟨T3, h3⟩, e3⟩ : ∃ r, sealT T 1 ticketS rk = r := ⟨_, rfl⟩
       have sa := seal_at (k := 1) (c := rk) (hd := ticketS) HB2.out.tab.1 (by decide) (by have := HLT.out; omega) (HI1'.out.ext HE.out) HBk.out.1
       have xs := sealT_ext T 1 ticketS rk
       rw [e3] at sa xs
       obtain ⟨rfl, ht, hf⟩ := p.intro e3
       have HBs := Lib.hid (HB2.out.frm ht hf HSW.out)
       have HXS := Lib.hid xs
       have HSA := Lib.hid sa
       have R1 := Lib.hid (HBs.out.S hlt HRK.out)
       have ZS : Hid (Zero4 w3 (wr.heap.size + 1)) := Z2.out.frm hf
       clear h0 p sa xs e3 ht hf)
    | (go_at_call 17
       with_reducible show Calls _ _ _ V3 _
       have h0 := HB3
       have key := seal_any 1 (some ⟨wr.heap.size + 1, 0, none⟩) 6 6 ticketL rk V3 HB3.out.tab ⟨by decide, by decide⟩ HFr.out HL3.out
       rw [ticket_str] at key
       refine key.mono ?_
       clear key
       rintro e w3 p
       obtain ⟨⟨T3, h3⟩, e3⟩ : ∃ r, sealT T 1 ticketS rk = r := ⟨_, rfl⟩
       have sa := seal_at (k := 1) (c := rk) (hd := ticketS) HB3.out.tab.1 (by decide) (by have := HLT.out; omega) (HI1'.out.ext HE.out) HBk.out.1
       have xs := sealT_ext T 1 ticketS rk
       rw [e3] at sa xs
       obtain ⟨rfl, ht, hf⟩ := p.intro e3
       have HBs := Lib.hid (HB3.out.frm ht hf HSW.out)
       have HXS := Lib.hid xs
       have HSA := Lib.hid sa
       have R1 := Lib.hid (HBs.out.S hlt HRK.out)
       have ZS : Hid (Zero4 w3 wr.heap.size) := Z3.out.frm hf
       clear h0 p sa xs e3 ht hf)
    | (go_at_call 16
       with_reducible show Calls _ _ _ w3 _
       have h0 : Hid (Zero4 w3 V1.heap.size) := ZS
       have key := redeem_any 1 h3 t w3 HBs.out.tab (fit_in HBs.out.tab.1 HSA.out.in_) HFt.out
       rw [HSA.out.redeem, if_pos rfl, (HBk.out.ext HXS.out).2 0 T3 (Ext.refl _) t, show noTk = ((0, 0, 0, 0), 14) from rfl] at key
       refine key.mono ?_
       clear key
       rintro e w5' ⟨rfl, hb⟩
       have HB5' := Lib.hid (HBs.out.below hb)
       have R3 := Lib.hid (HB5'.out.S hlt HRK.out)
       have ZR : Hid (Zero4 w5' V1.heap.size) := Zero4.below h0.out hb
       obtain ⟨y0, y1, y2, y3⟩ := ZR.out.cells
       have f0 := ZR.out.free 0
       have f1 := ZR.out.free 1
       have f2 := ZR.out.free 2
       have f3 := ZR.out.free 3
       have HBF := Lib.hid (HB5'.out.set4 0 0 0 0 ZR.out (HZ1.out))
       have R4 : Hid (((((w5'.setCell ⟨V1.heap.size, 0, none⟩ (.int .i64 0)).setCell ⟨V1.heap.size, 1, none⟩ (.int .i64 0)).setCell ⟨V1.heap.size, 2, none⟩ (.int .i64 0)).setCell ⟨V1.heap.size, 3, none⟩ (.int .i64 0)).cell? ⟨gR, k, none⟩ = some (.int .i64 rk) ∧ ((((w5'.setCell ⟨V1.heap.size, 0, none⟩ (.int .i64 0)).setCell ⟨V1.heap.size, 1, none⟩ (.int .i64 0)).setCell ⟨V1.heap.size, 2, none⟩ (.int .i64 0)).setCell ⟨V1.heap.size, 3, none⟩ (.int .i64 0)).cell? ⟨w.heap.size, 1, none⟩ = some (.int .i64 t)) := HBF.out.S hlt HRK.out
       clear h0 hb ZR)
    | (go_at_call 16
       with_reducible show Calls _ _ _ w3 _
       have h0 : Hid (Zero4 w3 (wr.heap.size + 1)) := ZS
       have key := redeem_any 1 h3 t w3 HBs.out.tab (fit_in HBs.out.tab.1 HSA.out.in_) HFt.out
       rw [HSA.out.redeem, if_pos rfl, (HBk.out.ext HXS.out).2 0 T3 (Ext.refl _) t, show noTk = ((0, 0, 0, 0), 14) from rfl] at key
       refine key.mono ?_
       clear key
       rintro e w5' ⟨rfl, hb⟩
       have HB5' := Lib.hid (HBs.out.below hb)
       have R3 := Lib.hid (HB5'.out.S hlt HRK.out)
       have ZR : Hid (Zero4 w5' (wr.heap.size + 1)) := Zero4.below h0.out hb
       obtain ⟨y0, y1, y2, y3⟩ := ZR.out.cells
       have f0 := ZR.out.free 0
       have f1 := ZR.out.free 1
       have f2 := ZR.out.free 2
       have f3 := ZR.out.free 3
       have HBF := Lib.hid (HB5'.out.set4 0 0 0 0 ZR.out (Nat.le_succ_of_le HZr.out))
       have R4 : Hid (((((w5'.setCell ⟨(wr.heap.size + 1), 0, none⟩ (.int .i64 0)).setCell ⟨(wr.heap.size + 1), 1, none⟩ (.int .i64 0)).setCell ⟨(wr.heap.size + 1), 2, none⟩ (.int .i64 0)).setCell ⟨(wr.heap.size + 1), 3, none⟩ (.int .i64 0)).cell? ⟨gR, k, none⟩ = some (.int .i64 rk) ∧ ((((w5'.setCell ⟨(wr.heap.size + 1), 0, none⟩ (.int .i64 0)).setCell ⟨(wr.heap.size + 1), 1, none⟩ (.int .i64 0)).setCell ⟨(wr.heap.size + 1), 2, none⟩ (.int .i64 0)).setCell ⟨(wr.heap.size + 1), 3, none⟩ (.int .i64 0)).cell? ⟨w.heap.size, 1, none⟩ = some (.int .i64 t)) := HBF.out.S hlt HRK.out
       clear h0 hb ZR)
    | (go_at_call 16
       with_reducible show Calls _ _ _ w3 _
       have h0 : Hid (Zero4 w3 wr.heap.size) := ZS
       have key := redeem_any 1 h3 t w3 HBs.out.tab (fit_in HBs.out.tab.1 HSA.out.in_) HFt.out
       rw [HSA.out.redeem, if_pos rfl, (HBk.out.ext HXS.out).2 0 T3 (Ext.refl _) t, show noTk = ((0, 0, 0, 0), 14) from rfl] at key
       refine key.mono ?_
       clear key
       rintro e w5' ⟨rfl, hb⟩
       have HB5' := Lib.hid (HBs.out.below hb)
       have R3 := Lib.hid (HB5'.out.S hlt HRK.out)
       have ZR : Hid (Zero4 w5' wr.heap.size) := Zero4.below h0.out hb
       obtain ⟨y0, y1, y2, y3⟩ := ZR.out.cells
       have f0 := ZR.out.free 0
       have f1 := ZR.out.free 1
       have f2 := ZR.out.free 2
       have f3 := ZR.out.free 3
       have HBF := Lib.hid (HB5'.out.set4 0 0 0 0 ZR.out (HZr.out))
       have R4 : Hid (((((w5'.setCell ⟨wr.heap.size, 0, none⟩ (.int .i64 0)).setCell ⟨wr.heap.size, 1, none⟩ (.int .i64 0)).setCell ⟨wr.heap.size, 2, none⟩ (.int .i64 0)).setCell ⟨wr.heap.size, 3, none⟩ (.int .i64 0)).cell? ⟨gR, k, none⟩ = some (.int .i64 rk) ∧ ((((w5'.setCell ⟨wr.heap.size, 0, none⟩ (.int .i64 0)).setCell ⟨wr.heap.size, 1, none⟩ (.int .i64 0)).setCell ⟨wr.heap.size, 2, none⟩ (.int .i64 0)).setCell ⟨wr.heap.size, 3, none⟩ (.int .i64 0)).cell? ⟨w.heap.size, 1, none⟩ = some (.int .i64 t)) := HBF.out.S hlt HRK.out
       clear h0 hb ZR)
    | (go_at_call 16
       with_reducible show Calls _ _ _ (w3.alloc (.cells #[.int .i64 0, .int .i64 0, .int .i64 0, .int .i64 0] 29)) _
       have h0 : Hid (Zero4 (w3.alloc (.cells #[.int .i64 0, .int .i64 0, .int .i64 0, .int .i64 0] 29)) w3.heap.size) := zero4_new w3
       have key := redeem_any 1 h3 t (w3.alloc (.cells #[.int .i64 0, .int .i64 0, .int .i64 0, .int .i64 0] 29)) HBt.out.tab (fit_in HBs.out.tab.1 HSA.out.in_) HFt.out
       rw [HSA.out.redeem, if_pos rfl, (HBk.out.ext HXS.out).2 0 T3 (Ext.refl _) t, show noTk = ((0, 0, 0, 0), 14) from rfl] at key
       refine key.mono ?_
       clear key
       rintro e w5' ⟨rfl, hb⟩
       have HB5' := Lib.hid (HBt.out.below hb)
       have R3 := Lib.hid (HB5'.out.S hlt HRK.out)
       have ZR : Hid (Zero4 w5' w3.heap.size) := Zero4.below h0.out hb
       obtain ⟨y0, y1, y2, y3⟩ := ZR.out.cells
       have f0 := ZR.out.free 0
       have f1 := ZR.out.free 1
       have f2 := ZR.out.free 2
       have f3 := ZR.out.free 3
       have HBF := Lib.hid (HB5'.out.set4 0 0 0 0 ZR.out (HBs.out.bl.size))
       have R4 : Hid (((((w5'.setCell ⟨w3.heap.size, 0, none⟩ (.int .i64 0)).setCell ⟨w3.heap.size, 1, none⟩ (.int .i64 0)).setCell ⟨w3.heap.size, 2, none⟩ (.int .i64 0)).setCell ⟨w3.heap.size, 3, none⟩ (.int .i64 0)).cell? ⟨gR, k, none⟩ = some (.int .i64 rk) ∧ ((((w5'.setCell ⟨w3.heap.size, 0, none⟩ (.int .i64 0)).setCell ⟨w3.heap.size, 1, none⟩ (.int .i64 0)).setCell ⟨w3.heap.size, 2, none⟩ (.int .i64 0)).setCell ⟨w3.heap.size, 3, none⟩ (.int .i64 0)).cell? ⟨w.heap.size, 1, none⟩ = some (.int .i64 t)) := HBF.out.S hlt HRK.out
       clear h0 hb ZR)
    | (go_at_call 16
       with_reducible show Calls _ _ _ w3 _
       have h0 := HBt
       have key := redeem_any 1 h3 t w3 HBs.out.tab (fit_in HBs.out.tab.1 HSA.out.in_) HFt.out
       rw [HSA.out.redeem, if_pos rfl, (HBk.out.ext HXS.out).2 0 T3 (Ext.refl _) t, show noTk = ((0, 0, 0, 0), 14) from rfl] at key
       refine key.mono ?_
       clear key
       rintro e w5' ⟨rfl, hb⟩
       have HB5' := Lib.hid (HBs.out.below hb)
       have R3 := Lib.hid (HB5'.out.S hlt HRK.out)
       have HBF := Lib.hid (HB5'.out.below (below_new (.cells #[.int .i64 0, .int .i64 0, .int .i64 0, .int .i64 0] 29)))
       have R4 := Lib.hid (HBF.out.S hlt HRK.out)
       clear h0 hb)))
      all_goals
        rename_i hHeld
        clear hHeld
        go_wp2_with fail
        go_roundw
        case rel => exact ⟨k + 1, n + 2, T3, by omega, by go_num, HBF.out, HE.out.trans HXS.out, by have := HXS.out.len; have := HLT.out; omega⟩
        case measure => simp [intOf]; omega
    · obtain rfl : k = 4 := by omega
      have HRw := Lib.hid (HE.out.get HRow.out)
      have HTw := Lib.hid (HE.out.get HTx.out)
      have HIk := Lib.hid (HI1'.out.ext HE.out)
      have HRd := Lib.hid (HH.out.below BU.out.bl)
      have HFw : Hid (Fit r6) := fit_in BU.out.tab.1 (.of HRw.out)
      have HZS2 := Lib.hid (show zs = textV v t l from HZS.out)
      have BY := Lib.hid (BU.out.below (Below.refl _ _).drew)
      have RY := Lib.hid (HRd.out.below (Below.refl _ _).drew)
      have BA := Lib.hid (BU.out.below (show Below wr.heap.size wr (wr.alloc (.cells #[.int .i64 0, .int .i64 0, .int .i64 0, .int .i64 0] 29)).drew from (below_new _).drew))
      have RA := Lib.hid (HRd.out.below (show Below wr.heap.size wr (wr.alloc (.cells #[.int .i64 0, .int .i64 0, .int .i64 0, .int .i64 0] 29)).drew from (below_new _).drew))
      have ZA : Hid (Zero4 (wr.alloc (.cells #[.int .i64 0, .int .i64 0, .int .i64 0, .int .i64 0] 29)).drew wr.heap.size) := heap_alloc_new wr _
      have HZr := Lib.hid BU.out.bl.size
      have S0 := Lib.hid BY.out.tk.x1
      have SA := Lib.hid BA.out.tk.x1
      have Sr := BU.out.tk.x1
      obtain ⟨sh, hsh⟩ : ∃ sh, sh = strOfNums hs := ⟨_, rfl⟩
      have HSH := Lib.hid hsh
      clear hsh hTl
      by_cases hhd : sh = ticketS
      · have HHD := Lib.hid hhd
        have hcmp : sh.toList = [116, 105, 99, 107, 101, 116] := tick_list.1 hhd
        have hcb := trivial
        clear hhd
        go_wp2_with fail
        go_region_held3 (fun w' => w'.cell? ⟨w.heap.size, 1, none⟩ = some (.int .i64 t)) (first | with_reducible exact S0.out | with_reducible exact SA.out | with_reducible exact R1.out | with_reducible exact R2.out | with_reducible exact R3.out | with_reducible exact R4.out) ((first
    | (go_at_call 17
       with_reducible show Calls _ _ _ wr.drew _
       have h0 := BY
       have key := seal_any 1 A0 n0 c0 hs r6 wr.drew BY.out.tab ⟨by decide, by decide⟩ HFw.out RY.out
       rw [← HSH.out] at key
       refine key.mono ?_
       clear key
       rintro e w3 p
       obtain ⟨⟨T3, h3⟩, e3⟩ : ∃ r, sealT T 1 sh r6 = r := ⟨_, rfl⟩
       have sa := seal_at (k := 1) (c := r6) (hd := sh) BY.out.tab.1 (by rw [HSH.out, strOfNums_size, HHl.out]; omega) (by have := HLT.out; omega) HIk.out (.of HRw.out)
       have xs := sealT_ext T 1 sh r6
       rw [e3] at sa xs
       obtain ⟨rfl, ht, hf⟩ := p.intro e3
       have HBs := Lib.hid (BY.out.frm ht hf HSW.out)
       have HXS := Lib.hid xs
       have HSA := Lib.hid sa
       have R1 := Lib.hid HBs.out.tk.x1
       have HBt := Lib.hid (HBs.out.below (below_new (.cells #[.int .i64 0, .int .i64 0, .int .i64 0, .int .i64 0] 29)))
       have R2 := Lib.hid HBt.out.tk.x1
       clear h0 p sa xs e3 ht hf)
    | (go_at_call 17
       with_reducible show Calls _ _ _ (wr.alloc (.cells #[.int .i64 0, .int .i64 0, .int .i64 0, .int .i64 0] 29)).drew _
       have h0 := BA
       have key := seal_any 1 A0 n0 c0 hs r6 (wr.alloc (.cells #[.int .i64 0, .int .i64 0, .int .i64 0, .int .i64 0] 29)).drew BA.out.tab ⟨by decide, by decide⟩ HFw.out RA.out
       rw [← HSH.out] at key
       refine key.mono ?_
       clear key
       rintro e w3 p
       obtain ⟨⟨T3, h3⟩, e3⟩ : ∃ r, sealT T 1 sh r6 = r := ⟨_, rfl⟩
       have sa := seal_at (k := 1) (c := r6) (hd := sh) BA.out.tab.1 (by rw [HSH.out, strOfNums_size, HHl.out]; omega) (by have := HLT.out; omega) HIk.out (.of HRw.out)
       have xs := sealT_ext T 1 sh r6
       rw [e3] at sa xs
       obtain ⟨rfl, ht, hf⟩ := p.intro e3
       have HBs := Lib.hid (BA.out.frm ht hf HSW.out)
       have HXS := Lib.hid xs
       have HSA := Lib.hid sa
       have R1 := Lib.hid HBs.out.tk.x1
       have ZS : Hid (Zero4 w3 wr.heap.size) := ZA.out.frm hf
       clear h0 p sa xs e3 ht hf)
    | (go_at_call 16
       with_reducible show Calls _ _ _ w3 _
       have h0 : Hid (Zero4 w3 wr.heap.size) := ZS
       have key := redeem_any 1 h3 t w3 HBs.out.tab (fit_in HBs.out.tab.1 HSA.out.in_) HFt.out
       rw [show redeemV T3 1 h3 t = ((v, t, l, 2), 0) from (seal_yes HSA.out HHD.out HRw.out (HZS2.out ▸ HTw.out) HXS.out HSZ.out)] at key
       refine key.mono ?_
       clear key
       rintro e w5' ⟨rfl, hb⟩
       have HB5' := Lib.hid (HBs.out.below hb)
       have R3 := Lib.hid HB5'.out.tk.x1
       have ZR : Hid (Zero4 w5' wr.heap.size) := Zero4.below h0.out hb
       obtain ⟨y0, y1, y2, y3⟩ := ZR.out.cells
       have f0 := ZR.out.free 0
       have f1 := ZR.out.free 1
       have f2 := ZR.out.free 2
       have f3 := ZR.out.free 3
       have HBF := Lib.hid (HB5'.out.set4 v t l 2 ZR.out (HZr.out))
       have R4 : Hid (((((w5'.setCell ⟨wr.heap.size, 0, none⟩ (.int .i64 v)).setCell ⟨wr.heap.size, 1, none⟩ (.int .i64 t)).setCell ⟨wr.heap.size, 2, none⟩ (.int .i64 l)).setCell ⟨wr.heap.size, 3, none⟩ (.int .i64 2)).cell? ⟨w.heap.size, 1, none⟩ = some (.int .i64 t)) := HBF.out.tk.x1
       obtain ⟨WF, hWF⟩ : ∃ u, u = ((((w5'.setCell ⟨wr.heap.size, 0, none⟩ (.int .i64 v)).setCell ⟨wr.heap.size, 1, none⟩ (.int .i64 t)).setCell ⟨wr.heap.size, 2, none⟩ (.int .i64 l)).setCell ⟨wr.heap.size, 3, none⟩ (.int .i64 2)) := ⟨_, rfl⟩
       have HBG : Hid (Bun w W.heap.size tb gR v t l r7 r8 r9 h5 T3 WF) := by rw [hWF]; exact HBF.out
       have HWF := Lib.hid hWF
       clear h0 hb ZR hWF HBF)
    | (go_at_call 16
       with_reducible show Calls _ _ _ (w3.alloc (.cells #[.int .i64 0, .int .i64 0, .int .i64 0, .int .i64 0] 29)) _
       have h0 : Hid (Zero4 (w3.alloc (.cells #[.int .i64 0, .int .i64 0, .int .i64 0, .int .i64 0] 29)) w3.heap.size) := zero4_new w3
       have key := redeem_any 1 h3 t (w3.alloc (.cells #[.int .i64 0, .int .i64 0, .int .i64 0, .int .i64 0] 29)) HBt.out.tab (fit_in HBs.out.tab.1 HSA.out.in_) HFt.out
       rw [show redeemV T3 1 h3 t = ((v, t, l, 2), 0) from (seal_yes HSA.out HHD.out HRw.out (HZS2.out ▸ HTw.out) HXS.out HSZ.out)] at key
       refine key.mono ?_
       clear key
       rintro e w5' ⟨rfl, hb⟩
       have HB5' := Lib.hid (HBt.out.below hb)
       have R3 := Lib.hid HB5'.out.tk.x1
       have ZR : Hid (Zero4 w5' w3.heap.size) := Zero4.below h0.out hb
       obtain ⟨y0, y1, y2, y3⟩ := ZR.out.cells
       have f0 := ZR.out.free 0
       have f1 := ZR.out.free 1
       have f2 := ZR.out.free 2
       have f3 := ZR.out.free 3
       have HBF := Lib.hid (HB5'.out.set4 v t l 2 ZR.out (HBs.out.bl.size))
       have R4 : Hid (((((w5'.setCell ⟨w3.heap.size, 0, none⟩ (.int .i64 v)).setCell ⟨w3.heap.size, 1, none⟩ (.int .i64 t)).setCell ⟨w3.heap.size, 2, none⟩ (.int .i64 l)).setCell ⟨w3.heap.size, 3, none⟩ (.int .i64 2)).cell? ⟨w.heap.size, 1, none⟩ = some (.int .i64 t)) := HBF.out.tk.x1
       obtain ⟨WF, hWF⟩ : ∃ u, u = ((((w5'.setCell ⟨w3.heap.size, 0, none⟩ (.int .i64 v)).setCell ⟨w3.heap.size, 1, none⟩ (.int .i64 t)).setCell ⟨w3.heap.size, 2, none⟩ (.int .i64 l)).setCell ⟨w3.heap.size, 3, none⟩ (.int .i64 2)) := ⟨_, rfl⟩
       have HBG : Hid (Bun w W.heap.size tb gR v t l r7 r8 r9 h5 T3 WF) := by rw [hWF]; exact HBF.out
       have HWF := Lib.hid hWF
       clear h0 hb ZR hWF HBF)
    | (go_at_call 16
       with_reducible show Calls _ _ _ w3 _
       have h0 := HBt
       have key := redeem_any 1 h3 t w3 HBs.out.tab (fit_in HBs.out.tab.1 HSA.out.in_) HFt.out
       rw [show redeemV T3 1 h3 t = ((v, t, l, 2), 0) from (seal_yes HSA.out HHD.out HRw.out (HZS2.out ▸ HTw.out) HXS.out HSZ.out)] at key
       refine key.mono ?_
       clear key
       rintro e w5' ⟨rfl, hb⟩
       have HB5' := Lib.hid (HBs.out.below hb)
       have R3 := Lib.hid HB5'.out.tk.x1
       have HBF := Lib.hid (HB5'.out.below (below_new (.cells #[.int .i64 v, .int .i64 t, .int .i64 l, .int .i64 2] 29)))
       have R4 := Lib.hid HBF.out.tk.x1
       have R2 := Lib.hid (HB5'.out.below (below_new (.cells #[.int .i64 0, .int .i64 0, .int .i64 0, .int .i64 0] 29))).tk.x1
       obtain ⟨WF, hWF⟩ : ∃ u, u = w5'.alloc (.cells #[.int .i64 v, .int .i64 t, .int .i64 l, .int .i64 2] 29) := ⟨_, rfl⟩
       have HBG : Hid (Bun w W.heap.size tb gR v t l r7 r8 r9 h5 T3 WF) := by rw [hWF]; exact HBF.out
       have HWF := Lib.hid hWF
       clear h0 hb hWF HBF)))
        all_goals
          rename_i hHeld
          clear hHeld
          rw [← HWF.out]
          have x1 := HBG.out.tk.x1
          have key := redeem_any 1 r6 t WF HBG.out.tab HFw.out HFt.out
          rw [show redeemV T3 1 r6 t = ((0, 0, 0, 0), 14) from redeem_kind (HXS.out.get HRw.out) (show (3 : Int) ≠ 10 by decide)] at key
          clear HWF
          go_wp2_with fail
          refine key.mono ?_
          clear key
          rintro e w7 ⟨rfl, hb⟩
          have HB7 := Lib.hid (below_next HBG.out.bl HBG.out.bl.size (below_next hb hb.size (below_new (.cells #[.int .i64 0, .int .i64 0, .int .i64 0, .int .i64 0] 29))))
          have hcs := run_bytes_string (HH.out.below HB7.out)
          rw [← HSH.out] at hcs
          have key := awake17_any _ (HZ.out.later HB7.out)
          clear hb x1
          go_wp2_with fail
          refine key.mono ?_
          clear key
          rintro e w8 ⟨rfl, hb⟩
          have HB8 := Lib.hid (below_next HB7.out HB7.out.size hb)
          clear hb
          go_wp2_with fail
          go_ret
          exact ⟨rfl, HB8.out⟩
      · have HHD := Lib.hid hhd
        have hcmp : ¬ sh.toList = [116, 105, 99, 107, 101, 116] := fun e => hhd (tick_list.2 e)
        have hcb : (sh.toList == [116, 105, 99, 107, 101, 116]) = false := beq_eq_false_iff_ne.2 hcmp
        clear hhd
        go_wp2_with fail
        go_region_held3 (fun w' => w'.cell? ⟨w.heap.size, 1, none⟩ = some (.int .i64 t)) (first | with_reducible exact S0.out | with_reducible exact SA.out | with_reducible exact R1.out | with_reducible exact R2.out | with_reducible exact R3.out | with_reducible exact R4.out) ((first
    | (go_at_call 17
       with_reducible show Calls _ _ _ wr.drew _
       have h0 := BY
       have key := seal_any 1 A0 n0 c0 hs r6 wr.drew BY.out.tab ⟨by decide, by decide⟩ HFw.out RY.out
       rw [← HSH.out] at key
       refine key.mono ?_
       clear key
       rintro e w3 p
       obtain ⟨⟨T3, h3⟩, e3⟩ : ∃ r, sealT T 1 sh r6 = r := ⟨_, rfl⟩
       have sa := seal_at (k := 1) (c := r6) (hd := sh) BY.out.tab.1 (by rw [HSH.out, strOfNums_size, HHl.out]; omega) (by have := HLT.out; omega) HIk.out (.of HRw.out)
       have xs := sealT_ext T 1 sh r6
       rw [e3] at sa xs
       obtain ⟨rfl, ht, hf⟩ := p.intro e3
       have HBs := Lib.hid (BY.out.frm ht hf HSW.out)
       have HXS := Lib.hid xs
       have HSA := Lib.hid sa
       have R1 := Lib.hid HBs.out.tk.x1
       have HBt := Lib.hid (HBs.out.below (below_new (.cells #[.int .i64 0, .int .i64 0, .int .i64 0, .int .i64 0] 29)))
       have R2 := Lib.hid HBt.out.tk.x1
       clear h0 p sa xs e3 ht hf)
    | (go_at_call 17
       with_reducible show Calls _ _ _ (wr.alloc (.cells #[.int .i64 0, .int .i64 0, .int .i64 0, .int .i64 0] 29)).drew _
       have h0 := BA
       have key := seal_any 1 A0 n0 c0 hs r6 (wr.alloc (.cells #[.int .i64 0, .int .i64 0, .int .i64 0, .int .i64 0] 29)).drew BA.out.tab ⟨by decide, by decide⟩ HFw.out RA.out
       rw [← HSH.out] at key
       refine key.mono ?_
       clear key
       rintro e w3 p
       obtain ⟨⟨T3, h3⟩, e3⟩ : ∃ r, sealT T 1 sh r6 = r := ⟨_, rfl⟩
       have sa := seal_at (k := 1) (c := r6) (hd := sh) BA.out.tab.1 (by rw [HSH.out, strOfNums_size, HHl.out]; omega) (by have := HLT.out; omega) HIk.out (.of HRw.out)
       have xs := sealT_ext T 1 sh r6
       rw [e3] at sa xs
       obtain ⟨rfl, ht, hf⟩ := p.intro e3
       have HBs := Lib.hid (BA.out.frm ht hf HSW.out)
       have HXS := Lib.hid xs
       have HSA := Lib.hid sa
       have R1 := Lib.hid HBs.out.tk.x1
       have ZS : Hid (Zero4 w3 wr.heap.size) := ZA.out.frm hf
       clear h0 p sa xs e3 ht hf)
    | (go_at_call 16
       with_reducible show Calls _ _ _ w3 _
       have h0 : Hid (Zero4 w3 wr.heap.size) := ZS
       have key := redeem_any 1 h3 t w3 HBs.out.tab (fit_in HBs.out.tab.1 HSA.out.in_) HFt.out
       rw [show redeemV T3 1 h3 t = ((0, 0, 0, 0), 14) from (seal_no HSA.out HHD.out)] at key
       refine key.mono ?_
       clear key
       rintro e w5' ⟨rfl, hb⟩
       have HB5' := Lib.hid (HBs.out.below hb)
       have R3 := Lib.hid HB5'.out.tk.x1
       have ZR : Hid (Zero4 w5' wr.heap.size) := Zero4.below h0.out hb
       obtain ⟨y0, y1, y2, y3⟩ := ZR.out.cells
       have f0 := ZR.out.free 0
       have f1 := ZR.out.free 1
       have f2 := ZR.out.free 2
       have f3 := ZR.out.free 3
       have HBF := Lib.hid (HB5'.out.set4 0 0 0 0 ZR.out (HZr.out))
       have R4 : Hid (((((w5'.setCell ⟨wr.heap.size, 0, none⟩ (.int .i64 0)).setCell ⟨wr.heap.size, 1, none⟩ (.int .i64 0)).setCell ⟨wr.heap.size, 2, none⟩ (.int .i64 0)).setCell ⟨wr.heap.size, 3, none⟩ (.int .i64 0)).cell? ⟨w.heap.size, 1, none⟩ = some (.int .i64 t)) := HBF.out.tk.x1
       obtain ⟨WF, hWF⟩ : ∃ u, u = ((((w5'.setCell ⟨wr.heap.size, 0, none⟩ (.int .i64 0)).setCell ⟨wr.heap.size, 1, none⟩ (.int .i64 0)).setCell ⟨wr.heap.size, 2, none⟩ (.int .i64 0)).setCell ⟨wr.heap.size, 3, none⟩ (.int .i64 0)) := ⟨_, rfl⟩
       have HBG : Hid (Bun w W.heap.size tb gR v t l r7 r8 r9 h5 T3 WF) := by rw [hWF]; exact HBF.out
       have HWF := Lib.hid hWF
       clear h0 hb ZR hWF HBF)
    | (go_at_call 16
       with_reducible show Calls _ _ _ (w3.alloc (.cells #[.int .i64 0, .int .i64 0, .int .i64 0, .int .i64 0] 29)) _
       have h0 : Hid (Zero4 (w3.alloc (.cells #[.int .i64 0, .int .i64 0, .int .i64 0, .int .i64 0] 29)) w3.heap.size) := zero4_new w3
       have key := redeem_any 1 h3 t (w3.alloc (.cells #[.int .i64 0, .int .i64 0, .int .i64 0, .int .i64 0] 29)) HBt.out.tab (fit_in HBs.out.tab.1 HSA.out.in_) HFt.out
       rw [show redeemV T3 1 h3 t = ((0, 0, 0, 0), 14) from (seal_no HSA.out HHD.out)] at key
       refine key.mono ?_
       clear key
       rintro e w5' ⟨rfl, hb⟩
       have HB5' := Lib.hid (HBt.out.below hb)
       have R3 := Lib.hid HB5'.out.tk.x1
       have ZR : Hid (Zero4 w5' w3.heap.size) := Zero4.below h0.out hb
       obtain ⟨y0, y1, y2, y3⟩ := ZR.out.cells
       have f0 := ZR.out.free 0
       have f1 := ZR.out.free 1
       have f2 := ZR.out.free 2
       have f3 := ZR.out.free 3
       have HBF := Lib.hid (HB5'.out.set4 0 0 0 0 ZR.out (HBs.out.bl.size))
       have R4 : Hid (((((w5'.setCell ⟨w3.heap.size, 0, none⟩ (.int .i64 0)).setCell ⟨w3.heap.size, 1, none⟩ (.int .i64 0)).setCell ⟨w3.heap.size, 2, none⟩ (.int .i64 0)).setCell ⟨w3.heap.size, 3, none⟩ (.int .i64 0)).cell? ⟨w.heap.size, 1, none⟩ = some (.int .i64 t)) := HBF.out.tk.x1
       obtain ⟨WF, hWF⟩ : ∃ u, u = ((((w5'.setCell ⟨w3.heap.size, 0, none⟩ (.int .i64 0)).setCell ⟨w3.heap.size, 1, none⟩ (.int .i64 0)).setCell ⟨w3.heap.size, 2, none⟩ (.int .i64 0)).setCell ⟨w3.heap.size, 3, none⟩ (.int .i64 0)) := ⟨_, rfl⟩
       have HBG : Hid (Bun w W.heap.size tb gR v t l r7 r8 r9 h5 T3 WF) := by rw [hWF]; exact HBF.out
       have HWF := Lib.hid hWF
       clear h0 hb ZR hWF HBF)
    | (go_at_call 16
       with_reducible show Calls _ _ _ w3 _
       have h0 := HBt
       have key := redeem_any 1 h3 t w3 HBs.out.tab (fit_in HBs.out.tab.1 HSA.out.in_) HFt.out
       rw [show redeemV T3 1 h3 t = ((0, 0, 0, 0), 14) from (seal_no HSA.out HHD.out)] at key
       refine key.mono ?_
       clear key
       rintro e w5' ⟨rfl, hb⟩
       have HB5' := Lib.hid (HBs.out.below hb)
       have R3 := Lib.hid HB5'.out.tk.x1
       have HBF := Lib.hid (HB5'.out.below (below_new (.cells #[.int .i64 0, .int .i64 0, .int .i64 0, .int .i64 0] 29)))
       have R4 := Lib.hid HBF.out.tk.x1
       have R2 := Lib.hid (HB5'.out.below (below_new (.cells #[.int .i64 0, .int .i64 0, .int .i64 0, .int .i64 0] 29))).tk.x1
       obtain ⟨WF, hWF⟩ : ∃ u, u = w5'.alloc (.cells #[.int .i64 0, .int .i64 0, .int .i64 0, .int .i64 0] 29) := ⟨_, rfl⟩
       have HBG : Hid (Bun w W.heap.size tb gR v t l r7 r8 r9 h5 T3 WF) := by rw [hWF]; exact HBF.out
       have HWF := Lib.hid hWF
       clear h0 hb hWF HBF)))
        all_goals
          rename_i hHeld
          clear hHeld
          rw [← HWF.out]
          have x1 := HBG.out.tk.x1
          have key := redeem_any 1 r6 t WF HBG.out.tab HFw.out HFt.out
          rw [show redeemV T3 1 r6 t = ((0, 0, 0, 0), 14) from redeem_kind (HXS.out.get HRw.out) (show (3 : Int) ≠ 10 by decide)] at key
          clear HWF
          go_wp2_with fail
          refine key.mono ?_
          clear key
          rintro e w7 ⟨rfl, hb⟩
          have HB7 := Lib.hid (below_next HBG.out.bl HBG.out.bl.size (below_next hb hb.size (below_new (.cells #[.int .i64 0, .int .i64 0, .int .i64 0, .int .i64 0] 29))))
          have hcs := run_bytes_string (HH.out.below HB7.out)
          rw [← HSH.out] at hcs
          have key := awake17_any _ (HZ.out.later HB7.out)
          clear hb x1
          go_wp2_with fail
          refine key.mono ?_
          clear key
          rintro e w8 ⟨rfl, hb⟩
          have HB8 := Lib.hid (below_next HB7.out HB7.out.size hb)
          clear hb
          go_wp2_with fail
          go_ret
          exact ⟨rfl, HB8.out⟩
end Go.Proofs.YtbcicfgffjgpdaaDoor
