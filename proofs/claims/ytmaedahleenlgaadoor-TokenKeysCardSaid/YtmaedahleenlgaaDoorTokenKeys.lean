/- The walk of TokenKeys. No condition but the table of bit places. -/
import Derived.Test.YtmaedahleenlgaaDoorTokenOthers
import Derived.Test.YtmaedahleenlgaaDoorCanLit
import Derived.Test.YtmaedahleenlgaaDoorPureKeys
set_option linter.unusedVariables false
set_option linter.unusedSimpArgs false
namespace Go.Proofs.YtmaedahleenlgaaDoor
open Go Go.RowKit Go.WideMaps

theorem wf_sec2 : WfT [secN, secN] := by
  have := wf_secret wf_sec1
  rwa [sec2] at this
theorem knB_no_of {T : List Nd} {S : Int → Prop} {b : Bool} {h : Int} (k : ¬ Kn T S b h) : knB T S b h = false := by
  cases e : knB T S b h with
  | false => rfl
  | true => exact absurd (knB_true.1 e) k
theorem inT_one {T : List Nd} {x y : Int} (h : inT T [x] y) : y = x := by simpa using h.1
/-- Who has another key. -/
theorem tok_can_no {T : List Nd} (hw : WfT T) {h tx : Int} {b : ByteArray} (a : TokAt T h 1 b tx) (h1 : getT T 1 = some secN) (h2 : getT T 2 = some secN) : knB T (inT T [2]) false h = false := by
  obtain ⟨⟨h0, e1, e2⟩, e3⟩ := a
  exact knB_no_of fun k => keyed_no hw h1 rfl h2 rfl e1 rfl (by simp) (by decide) (k.mono fun x q => inT_one q)
theorem tok_can_yes {T : List Nd} {h tx : Int} {b : ByteArray} (a : TokAt T h 1 b tx) (h1 : getT T 1 = some secN) (hl : 1 ≤ T.length) : knB T (inT T [1]) false h = true := by
  obtain ⟨⟨h0, e1, e2⟩, e3⟩ := a
  refine knB_true.2 (keyed_yes h1 ⟨by simp, by decide, by omega⟩ e1 rfl fun p q => ?_)
  simp only [List.mem_cons, List.not_mem_nil, or_false] at q
  rcases q with rfl | rfl | rfl
  · exact .inl rfl
  · exact .inr ⟨_, e2, rfl⟩
  · exact .inr ⟨_, e3, rfl⟩
theorem tok_look_no {T : List Nd} {h tx : Int} {b : ByteArray} (a : TokAt T h 1 b tx) : lookK T 2 h = none := lookK_shut (by rw [a.sl.open_]; rfl)

set_option maxHeartbeats 6400000 in
set_option maxRecDepth 100000 in
theorem tkeys_walk (w : World) (hz : Tz w) (x : Tok) (A : Option Addr) (c : Nat) (hr : Rds w.heap.size w .u8 A x.name.length c x.name) (hb : Byt x.name) :
    Calls Tryd.prog 8 #[TokV x A c] w (AwakePost w) := by
  have HZ := Lib.hid hz
  obtain ⟨W, hW⟩ : ∃ W, W = w.alloc (.cells #[.bool x.later, .int .i64 x.addr, .int .i64 x.time, .slice A x.name.length c] 24) := ⟨_, rfl⟩
  have HBW : Hid (Below w.heap.size w W) := by rw [hW]; exact below_new _
  have HX : Hid (RtAt W w.heap.size x A c) := by rw [hW]; exact heap_alloc_new w _
  have HR := Lib.hid (hr.below HBW.out)
  have HSW : Hid (w.heap.size ≤ W.heap.size) := HBW.out.size
  clear hz hr hb
  simp only [TokV]
  go_enter Tryd.func8, Tryd.ntmps8
  by_cases k0 : 50 < x.name.length
  · go_wp2_with fail
    rw [← hW]
    go_ret
    exact ⟨rfl, HBW.out⟩
  go_wp2_with fail
  rw [← hW]
  clear hW
  refine (new_any W).mono ?_
  rintro e w1 ⟨tb, rfl, ht1, hb1⟩
  have HU1 : Hid (BunM w W.heap.size tb w.heap.size x A c (fun _ => True) [] w1) := ⟨ht1, RtAt.b _ _ HX.out hb1, HR.out.below hb1, below_next HBW.out HBW.out.size hb1, trivial⟩
  have key := secret_any w1 ht1
  clear hb1 ht1 HX HR HBW
  go_wp2_with fail
  refine key.mono ?_
  clear key
  rintro e w2 p
  obtain ⟨rfl, ht, hf⟩ := p.intro sec1
  have HU2 := Lib.hid (HU1.out.frm (fun _ _ h _ => h) ht hf HSW.out)
  have key := secret_any w2 ht
  clear p ht hf HU1
  go_wp2_with fail
  refine key.mono ?_
  clear key
  rintro e w3 p
  obtain ⟨rfl, ht, hf⟩ := p.intro sec2
  have HU3 := Lib.hid (HU2.out.frm (fun _ _ h _ => h) ht hf HSW.out)
  obtain ⟨s0, s1, s2, s3⟩ := HU3.out.rt.cells
  have key := of16_any x.later x.addr x.time x.name A _ c w3 HU3.out.nm (by omega)
  clear p ht hf HU2
  go_wp2_with fail
  refine key.mono ?_
  clear key
  rintro e w4 ⟨A4, c4, rfl, ho, hb⟩
  have HU4 := Lib.hid (HU3.out.below (fun _ _ h _ => h) hb)
  have key := mint_any 1 x.later x.addr x.time x.name A4 _ c4 w4 HU4.out.tab ⟨by decide, by decide⟩ (ho.rds (B' := 0)) (show x.name.length ≤ 1000 by omega) (HZ.out.later HU4.out.bl)
  clear ho hb HU3 s0 s1 s2 s3
  go_wp2_with fail
  refine key.mono ?_
  clear key
  rintro e w5 p
  obtain ⟨⟨T5, h5⟩, e5⟩ : ∃ r, mintT [secN, secN] 1 x = r := ⟨_, rfl⟩
  obtain ⟨rfl, ht, hf⟩ := p.intro e5
  have E5 := Lib.hid e5
  have HU5 := Lib.hid (HU4.out.frm (fun _ _ h _ => h) ht hf HSW.out)
  have HS5 := HU5.out.bl.size
  clear p e5 ht hf HU4
  by_cases ha : h5 = 0
  · have hab : (h5 == 0) = true := by simp [ha]
    have key := awake16_any w5 (HZ.out.later HU5.out.bl)
    clear ha
    go_wp2_with fail
    refine key.mono ?_
    clear key
    rintro e w7 ⟨rfl, hb⟩
    have HB7 := Lib.hid (below_next HU5.out.bl HU5.out.bl.size hb)
    clear hb
    go_wp2_with fail
    go_ret
    exact ⟨rfl, HB7.out⟩
  have hab : (h5 == 0) = false := by simp [ha]
  have hbx : ¬ badTok x := fun k => by have := E5.out; rw [mintT_no k] at this; injection this with _ q; exact ha q.symm
  obtain ⟨tx, a1, x1⟩ := mint_at (T := [secN, secN]) (key := 1) (x := x) wf_sec2 (by decide) sec_in21 hbx
  rw [E5.out] at a1 x1
  have q1 : getT T5 1 = some secN := x1.get rfl
  have q2 : getT T5 2 = some secN := x1.get rfl
  have hlk := tok_look_no a1
  have hfit := fit_in HU5.out.tab.1 a1.sl.in_
  have KN : Hid (knB T5 (inT T5 [2]) false h5 = false) := tok_can_no HU5.out.tab.1 a1 q1 q2
  have KY : Hid (knB T5 (inT T5 [1]) false h5 = true) := tok_can_yes a1 q1 (by have := x1.le; simp at this; omega)
  have key := tlook_any 2 h5 w5 HU5.out.tab hfit
  rw [(lookXE hlk).1, (lookXE hlk).2] at key
  have hh5 := hfit.2
  clear ha hbx a1 x1 q1 q2 hlk hfit E5
  go_wp2_with fail
  refine key.mono ?_
  clear key
  rintro e w6 ⟨A6, c6, rfl, ho, hb⟩
  simp only [TokV, tok0, List.length_nil] at ho ⊢
  have HT5 := Lib.hid HU5.out.tab
  have HB5 := Lib.hid HU5.out.bl
  obtain ⟨V6, hV⟩ : ∃ V, V = w6.alloc (.cells #[.bool false, .int .i64 0, .int .i64 0, .slice A6 0 c6] 32) := ⟨_, rfl⟩
  have hbV : Below w6.heap.size w6 V6 := by rw [hV]; exact below_new _
  have HG6 : Hid (TbAt V6 w6.heap.size false 0 0 (.slice A6 0 c6)) := by rw [hV]; exact heap_alloc_new w6 _
  have h56 := below_next hb hb.size hbV
  have HB6 := Lib.hid (below_next HB5.out HB5.out.size h56)
  have HT6 := Lib.hid (HT5.out.below h56)
  have HO6 := Lib.hid ((ho.rds (B' := 0)).below hbV)
  have hc6 := HO6.out.max
  have HWB : Hid (W.heap.size ≤ V6.heap.size) := by
    show _ ≤ _
    exact Nat.le_of_lt (Nat.lt_of_le_of_lt HT6.out.2.1 HT6.out.lt)
  have q0 := HG6.out.x0
  have q1 := HG6.out.x1
  have q2 := HG6.out.x2
  have q3 := HG6.out.x3
  have lq := HG6.out.lt
  have key := told16_any tok0 tok0 A6 none c6 0 V6 HO6.out (Rds.nil 0 _ _) (fun x hx => by simp [tok0] at hx) (fun x hx => by simp [tok0] at hx)
  rw [decide_eq_true rfl] at key
  clear ho hb hbV h56 HU5 HB5 HT5 HO6 HG6
  simp only [TokV, tok0, List.length_nil] at key
  go_wp2_with fail
  rw [← hV]
  clear hV q0 q1 q2 q3 lq
  refine key.mono ?_
  clear key
  rintro e w7 ⟨rfl, hb⟩
  have HB7 := Lib.hid (below_next HB6.out HB6.out.size hb)
  have HT7 := Lib.hid (HT6.out.below hb)
  have hs7 : W.heap.size ≤ w7.heap.size := Nat.le_trans HWB.out hb.size
  clear hb HB6 HT6 HWB
  go_wp2_with fail
  refine (can_lit2 [2] h5 hh5 w7 HT7.out hs7 rfl (by decide) _ rfl ?_ 1 rfl KN.out).mono ?_
  · decide
  rintro e w8 ⟨rfl, hb, ht⟩
  have HB8 := Lib.hid (below_next HB7.out HB7.out.size hb)
  have HT8 := Lib.hid ht
  have hs8 : W.heap.size ≤ w8.heap.size := Nat.le_trans hs7 hb.size
  clear hb ht HB7 HT7
  go_wp2_with fail
  refine (can_lit2 [1] h5 hh5 w8 HT8.out hs8 rfl (by decide) _ rfl ?_ 1 rfl KY.out).mono ?_
  · decide
  rintro e w9 ⟨rfl, hb, ht⟩
  have HB9 := Lib.hid (below_next HB8.out HB8.out.size hb)
  clear hb ht HB8 HT8
  have key := awake16_any w9 (HZ.out.later HB9.out)
  go_wp2_with fail
  refine key.mono ?_
  clear key
  rintro e wa ⟨rfl, hb⟩
  have HBa := Lib.hid (below_next HB9.out HB9.out.size hb)
  clear hb
  go_wp2_with fail
  go_ret
  exact ⟨rfl, HBa.out⟩
theorem tkeys_row {v0 : Value} (w : World) (hz : Tz w) (h0 : TokArg w v0) :
    Calls Tryd.prog 8 #[v0] w fun e w' => e = .returned (.bool true) ∧ Below w.heap.size w w' := by
  obtain ⟨x, A, c, rfl, hr, hb⟩ := h0
  exact tkeys_walk w hz x A c hr hb
end Go.Proofs.YtmaedahleenlgaaDoor
