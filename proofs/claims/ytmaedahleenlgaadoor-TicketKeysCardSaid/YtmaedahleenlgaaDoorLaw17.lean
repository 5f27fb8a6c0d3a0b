/- The laws of layer 17: awake; TicketTimes. No condition but the table of bit places. -/
import Derived.Test.YtmaedahleenlgaaDoorPureTicket2
import Derived.Test.YtmaedahleenlgaaDoorLaid
set_option linter.unusedVariables false
set_option linter.unusedSimpArgs false
namespace Go.Proofs.YtmaedahleenlgaaDoor
open Go Go.RowKit Go.WideMaps

def secN : Nd := ⟨2, ByteArray.empty, []⟩
theorem sec1 : secretT [] = ([secN], 1) := by decide
theorem sec2 : secretT [secN] = ([secN, secN], 2) := by decide
theorem sec_in1 : In [secN] 1 := ⟨secN, rfl⟩
theorem sec_in21 : In [secN, secN] 1 := ⟨secN, rfl⟩
theorem sec_in22 : In [secN, secN] 2 := ⟨secN, rfl⟩
theorem fit_in {T : List Nd} {x : Int} (hw : WfT T) (h : In T x) : Fit x := by
  have := h.range
  have := hw.len
  exact ⟨by omega, by omega⟩

set_option maxHeartbeats 1600000 in
set_option maxRecDepth 100000 in
theorem awake17_any (w : World) (hz : Tz w) : Calls Tryd.prog 25 #[] w (AwakePost w) := by
  have HZ := Lib.hid hz
  clear hz
  go_enter Tryd.func25, Tryd.ntmps25
  go_wp2_with fail
  refine (new_any w).mono ?_
  rintro e w1 ⟨tb, rfl, ht1, hb1⟩
  have HB1 := Lib.hid hb1
  have key := secret_any w1 ht1
  clear hb1 ht1
  go_wp2_with fail
  refine key.mono ?_
  clear key
  rintro e w2 p
  obtain ⟨rfl, ht, hf⟩ := p.intro sec1
  have HB2 := Lib.hid (HB1.out.trans (hf.below HB1.out.size))
  have key := secret_any w2 ht
  clear p ht hf HB1
  go_wp2_with fail
  refine key.mono ?_
  clear key
  rintro e w3 p
  obtain ⟨rfl, ht, hf⟩ := p.intro sec2
  have HB3 := Lib.hid (HB2.out.trans (hf.below HB2.out.size))
  have hw3 := ht.1
  have key := issue_any 1 1 10 5 2 w3 ht ⟨by decide, by decide⟩ ⟨by decide, by decide⟩ (HZ.out.later HB3.out)
  clear p ht hf HB2
  go_wp2_with fail
  refine key.mono ?_
  clear key
  rintro e w4 p
  obtain ⟨row, tx, hT, -⟩ := issue_at (key := 1) (v := 1) (t := 10) (l := 5) (s := 2) hw3 (by decide) sec_in21 sec_in22 (by decide)
  obtain ⟨⟨T4, h⟩, e4⟩ : ∃ r, issueT [secN, secN] 1 1 10 5 2 = r := ⟨_, rfl⟩
  rw [e4] at hT
  obtain ⟨rfl, ht, hf⟩ := p.intro e4
  simp only at hT
  have HB4 := Lib.hid (HB3.out.trans (hf.below HB3.out.size))
  have HT4 := Lib.hid ht
  have TA := Lib.hid hT
  have hh := TA.out.pos
  have hhb : (h != 0) = true := by simp [hh]
  have HFh := Lib.hid (fit_in ht.1 hT.sl.in_)
  have key := redeem_any 1 h 15 w4 ht HFh.out ⟨by decide, by decide⟩
  rw [show redeemV T4 1 h 15 = ((1, 10, 5, 2), 0) from (hT.redeemN (by decide)).trans (by decide)] at key
  clear p e4 ht hf hw3 HB3 hT hh
  go_wp2_with fail
  refine key.mono ?_
  clear key
  rintro e w5 ⟨rfl, hb⟩
  obtain ⟨V5, hV⟩ : ∃ V, V = w5.alloc (.cells #[.int .i64 1, .int .i64 10, .int .i64 5, .int .i64 2] 61) := ⟨_, rfl⟩
  have hbV : Below w5.heap.size w5 V5 := by rw [hV]; exact below_new _
  have HX : Hid (TkAt V5 w5.heap.size 1 10 5 2) := by rw [hV]; exact heap_alloc_new w5 _
  have HB5 := Lib.hid (below_next HB4.out HB4.out.size (below_next hb hb.size hbV))
  have HT5 := Lib.hid (HT4.out.below (below_next hb hb.size hbV))
  have key := redeem_any 1 h 16 V5 HT5.out HFh.out ⟨by decide, by decide⟩
  rw [show redeemV T4 1 h 16 = ((0, 0, 0, 0), 9) from (TA.out.redeemN (by decide)).trans (by decide)] at key
  clear hb hbV HB4 HT4
  go_wp2_with fail
  rw [← hV]
  clear hV
  refine key.mono ?_
  clear key
  rintro e w6 ⟨rfl, hb⟩
  have HX6 := Lib.hid (HX.out.later hb HX.out.lt)
  have HB6 := Lib.hid (below_next HB5.out HB5.out.size hb)
  have x3 := HX6.out.x3
  have l6 := HX6.out.lt
  clear hb HX
  go_wp2_with fail
  go_ret
  exact ⟨rfl, HB6.out.alloc HB6.out.size _⟩

end Go.Proofs.YtmaedahleenlgaaDoor
