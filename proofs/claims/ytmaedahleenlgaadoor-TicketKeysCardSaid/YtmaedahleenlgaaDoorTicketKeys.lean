/- The walk of TicketKeys. No condition but the table of bit places. -/
import Derived.Test.YtmaedahleenlgaaDoorTicketIssues
import Derived.Test.YtmaedahleenlgaaDoorOthersRow
import Derived.Test.YtmaedahleenlgaaDoorCanLit
import Derived.Test.YtmaedahleenlgaaDoorPureKeys
set_option linter.unusedVariables false
set_option linter.unusedSimpArgs false
namespace Go.Proofs.YtmaedahleenlgaaDoor
open Go Go.RowKit Go.WideMaps

theorem sec3 : secretT [secN, secN] = ([secN, secN, secN], 3) := by decide
theorem wf_sec3 : WfT [secN, secN, secN] := by
  have h1 := wf_secret wfT_nil
  rw [sec1] at h1
  have h2 := wf_secret h1
  rw [sec2] at h2
  have h3 := wf_secret h2
  rwa [sec3] at h3
theorem sec_in31 : In [secN, secN, secN] 1 := ⟨secN, rfl⟩
theorem sec_in33 : In [secN, secN, secN] 3 := ⟨secN, rfl⟩
theorem knB_no_of17 {T : List Nd} {S : Int → Prop} {b : Bool} {h : Int} (k : ¬ Kn T S b h) : knB T S b h = false := by
  cases e : knB T S b h with
  | false => rfl
  | true => exact absurd (knB_true.1 e) k
theorem inT_two {T : List Nd} {x y z : Int} (h : inT T [x, y] z) : z = x ∨ z = y := by simpa using h.1
/-- Without the key the secret is not made of a ticket. -/
theorem tick_no {T : List Nd} (hw : WfT T) {h row tx : Int} {b : ByteArray} (a : TickAt T h 1 b 3 row tx) (h1 : getT T 1 = some secN) (h2 : getT T 2 = some secN) (h3 : getT T 3 = some secN) : knB T (inT T [h, 2]) false 3 = false := by
  obtain ⟨⟨h0, e1, e2⟩, e3, e4⟩ := a
  refine knB_no_of17 fun k => ?_
  refine (can_block hw (F := fun x => x = h ∨ x = 2) (C := fun x => x ≠ 1 ∧ x ≠ 3) (fun _ _ _ q => inT_two q) ?_ ?_ ?_ k).2 rfl
  · rintro x (rfl | rfl)
    · refine ⟨?_, ?_⟩
      · rintro rfl; rw [h1] at e1; cases e1
      · rintro rfl; rw [h3] at e1; cases e1
    · exact ⟨by decide, by decide⟩
  · rintro x m hg (rfl | rfl)
    · rw [e1] at hg; cases hg
      exact ⟨by show (10 : Int) ≠ 3; decide, by show (10 : Int) ≠ 9; decide, fun _ q => q.1 rfl⟩
    · rw [h2] at hg; cases hg
      exact ⟨by show (2 : Int) ≠ 3; decide, by show (2 : Int) ≠ 9; decide, fun q => absurd q (by show ¬ (2 : Int) = 10; decide)⟩
  · intro x m hg q
    by_cases e : x = 1
    · subst e; rw [h1] at hg; cases hg; exact .inl rfl
    · have e' : x = 3 := Classical.byContradiction fun q2 => q ⟨e, q2⟩
      subst e'; rw [h3] at hg; cases hg; exact .inl rfl
/-- With the key it is. -/
theorem tick_yes {T : List Nd} {h row tx : Int} {b : ByteArray} (a : TickAt T h 1 b 3 row tx) (h1 : getT T 1 = some secN) (hl : 1 ≤ T.length) : knB T (inT T [h, 1]) false 3 = true := by
  obtain ⟨⟨h0, e1, e2⟩, e3, e4⟩ := a
  have hr := getT_range e1
  refine knB_true.2 (.fol (.row e3 rfl (p := 3) (by simp) (.sealed e1 rfl (p := row) (by simp) (.base e1 ⟨by simp, hr⟩) (.fol (.base h1 ⟨by show (1 : Int) ∈ _; simp, by show (1 : Int) ≤ 1; decide, by show (1 : Int) ≤ _; omega⟩)))))
/-- The secret and another key make no ticket. -/
theorem tick_not {T : List Nd} (hw : WfT T) {h row tx : Int} {b : ByteArray} (a : TickAt T h 1 b 3 row tx) (h1 : getT T 1 = some secN) (h2 : getT T 2 = some secN) (h3 : getT T 3 = some secN) : knB T (inT T [3, 2]) false h = false := by
  obtain ⟨⟨h0, e1, e2⟩, e3, e4⟩ := a
  refine knB_no_of17 fun k => ?_
  refine (can_block hw (F := fun x => x = 3 ∨ x = 2) (C := fun x => x ≠ 1 ∧ x ≠ h) (fun _ _ _ q => inT_two q) ?_ ?_ ?_ k).2 rfl
  · rintro x (rfl | rfl)
    · refine ⟨by decide, ?_⟩
      rintro rfl; rw [h3] at e1; cases e1
    · refine ⟨by decide, ?_⟩
      rintro rfl; rw [h2] at e1; cases e1
  · rintro x m hg (rfl | rfl)
    · rw [h3] at hg; cases hg
      exact ⟨by show (2 : Int) ≠ 3; decide, by show (2 : Int) ≠ 9; decide, fun q => absurd q (by show ¬ (2 : Int) = 10; decide)⟩
    · rw [h2] at hg; cases hg
      exact ⟨by show (2 : Int) ≠ 3; decide, by show (2 : Int) ≠ 9; decide, fun q => absurd q (by show ¬ (2 : Int) = 10; decide)⟩
  · intro x m hg q
    by_cases e : x = 1
    · subst e; rw [h1] at hg; cases hg; exact .inl rfl
    · have e' : x = h := Classical.byContradiction fun q2 => q ⟨e, q2⟩
      subst e'; rw [e1] at hg; cases hg; exact .inr ⟨rfl, 1, by simp, fun q => q.1 rfl⟩
theorem tick_redeem {T : List Nd} {h row tx now : Int} {b : ByteArray} (a : TickAt T h 1 b 3 row tx) : redeemV T 2 h now = ((0, 0, 0, 0), 14) := by
  unfold redeemV
  rw [a.sl.open_]
  exact rowV_none (by show getT T 0 = none; exact getT_none (by omega))

set_option maxHeartbeats 6400000 in
set_option maxRecDepth 100000 in
theorem tkeys17_walk (w : World) (hz : Tz w) (v t l : Int) (hft : Fit t) :
    Calls Tryd.prog 7 #[.agg #[.int .i64 v, .int .i64 t, .int .i64 l]] w (AwakePost w) := by
  have HZ := Lib.hid hz
  have HF := Lib.hid hft
  obtain ⟨W, hW⟩ : ∃ W, W = w.alloc (.cells #[.int .i64 v, .int .i64 t, .int .i64 l] 58) := ⟨_, rfl⟩
  have HBW : Hid (Below w.heap.size w W) := by rw [hW]; exact below_new _
  have HX : Hid (Tk3At W w.heap.size v t l) := by rw [hW]; exact heap_alloc_new w _
  clear hz hft
  go_enter Tryd.func7, Tryd.ntmps7
  go_wp2_with fail
  rw [← hW]
  clear hW
  refine (new_any W).mono ?_
  rintro e w1 ⟨tb, rfl, ht1, hb1⟩
  have HX1 := Lib.hid (HX.out.later hb1 HX.out.lt)
  have HB1 := Lib.hid (below_next HBW.out HBW.out.size hb1)
  have HSW := Lib.hid HBW.out.size
  have key := secret_any w1 ht1
  clear hb1 ht1 HX HBW
  go_wp2_with fail
  refine key.mono ?_
  clear key
  rintro e w2 p
  obtain ⟨rfl, ht, hf⟩ := p.intro sec1
  have HX2 := Lib.hid (HX1.out.frm hf)
  have HB2 := Lib.hid (HB1.out.trans ((hf.weak HSW.out).below HB1.out.size))
  have key := secret_any w2 ht
  clear p ht hf HB1 HX1
  go_wp2_with fail
  refine key.mono ?_
  clear key
  rintro e w3 p
  obtain ⟨rfl, ht, hf⟩ := p.intro sec2
  have HX3 := Lib.hid (HX2.out.frm hf)
  have HB3 := Lib.hid (HB2.out.trans ((hf.weak HSW.out).below HB2.out.size))
  have key := secret_any w3 ht
  clear p ht hf HB2 HX2
  go_wp2_with fail
  refine key.mono ?_
  clear key
  rintro e w4 p
  obtain ⟨rfl, ht, hf⟩ := p.intro sec3
  have HX4 := Lib.hid (HX3.out.frm hf)
  have HB4 := Lib.hid (HB3.out.trans ((hf.weak HSW.out).below HB3.out.size))
  have HT4 := Lib.hid ht
  have x0 := HX4.out.x0
  have x1 := HX4.out.x1
  have x2 := HX4.out.x2
  have key := issue_any 1 v t l 3 w4 HT4.out ⟨by decide, by decide⟩ ⟨by decide, by decide⟩ (HZ.out.later HB4.out)
  clear p ht hf HB3 HX3
  go_wp2_with fail
  refine key.mono ?_
  clear key
  rintro e w5 p
  by_cases hsz : sizeV v = 0 ∨ sizeV t = 0 ∨ sizeV l = 0
  · obtain ⟨rfl, ht, hf⟩ := p.intro (issueT_no hsz)
    have HB5 := Lib.hid (HB4.out.trans ((hf.weak HSW.out).below HB4.out.size))
    have key := awake17_any w5 (HZ.out.later HB5.out)
    clear p ht hf hsz
    go_wp2_with fail
    refine key.mono ?_
    clear key
    rintro e w7 ⟨rfl, hb⟩
    have HB7 := Lib.hid (below_next HB5.out HB5.out.size hb)
    clear hb
    go_wp2_with fail
    go_ret
    exact ⟨rfl, HB7.out⟩
  obtain ⟨row, tx, a1, X1⟩ := issue_at (T := [secN, secN, secN]) (key := 1) (v := v) (t := t) (l := l) (s := 3) wf_sec3 (by decide) sec_in31 sec_in33 hsz
  obtain ⟨⟨T5, h5⟩, e5⟩ : ∃ r, issueT [secN, secN, secN] 1 v t l 3 = r := ⟨_, rfl⟩
  obtain ⟨rfl, ht, hf⟩ := p.intro e5
  rw [e5] at a1 X1
  simp only at a1 X1
  have HX5 := Lib.hid (HX4.out.frm hf)
  have HB5 := Lib.hid (HB4.out.trans ((hf.weak HSW.out).below HB4.out.size))
  have HT5 := Lib.hid ht
  have g1 : getT T5 1 = some secN := X1.get rfl
  have g2 : getT T5 2 = some secN := X1.get rfl
  have g3 : getT T5 3 = some secN := X1.get rfl
  have K1 : Hid (knB T5 (inT T5 [h5, 2]) false 3 = false) := tick_no ht.1 a1 g1 g2 g3
  have K2 : Hid (knB T5 (inT T5 [h5, 1]) false 3 = true) := tick_yes a1 g1 (by have := X1.le; simp at this; omega)
  have K3 : Hid (knB T5 (inT T5 [3, 2]) false h5 = false) := tick_not ht.1 a1 g1 g2 g3
  have hfit := fit_in ht.1 a1.sl.in_
  have hhr : 1 ≤ h5 := by obtain ⟨h0, e1, -⟩ := a1.sl; exact (getT_range e1).1
  have hab : (h5 == 0) = false := by simp; omega
  have hh5 := hfit.2
  have y1 := HX5.out.x1
  have key := redeem_any 2 h5 t w5 HT5.out hfit HF.out
  rw [tick_redeem a1] at key
  clear p e5 ht hf hsz a1 X1 g1 g2 g3 HB4 HX4 HT4 x0 x1 x2 hhr hfit
  go_wp2_with fail
  refine key.mono ?_
  clear key
  rintro e w6 ⟨rfl, hb⟩
  simp only
  obtain ⟨V6, hV⟩ : ∃ V, V = w6.alloc (.cells #[.int .i64 0, .int .i64 0, .int .i64 0, .int .i64 0] 61) := ⟨_, rfl⟩
  have hbV : Below w6.heap.size w6 V6 := by rw [hV]; exact below_new _
  have h56 := below_next hb hb.size hbV
  have HB6 := Lib.hid (below_next HB5.out HB5.out.size h56)
  have HT6 := Lib.hid (HT5.out.below h56)
  have hs6 : W.heap.size ≤ V6.heap.size := Nat.le_of_lt (Nat.lt_of_le_of_lt HT6.out.2.1 HT6.out.lt)
  have k1 := can_lit2 (t := 29) (g := w6.heap.size + 1) [h5, 2] 3 (by decide) V6 HT6.out hs6 (by rw [hV]; simp) (by simp) _ rfl (by decide) 2 rfl K1.out
  rw [hV] at k1
  simp only [List.map_cons, List.map_nil] at k1
  clear hb hbV h56 HB5 HT5 y1 HX5
  go_wp2_with fail
  refine k1.mono ?_
  clear k1
  rw [← hV]
  clear hV
  rintro e w7 ⟨rfl, hb, ht⟩
  have HB7 := Lib.hid (below_next HB6.out HB6.out.size hb)
  have HT7 := Lib.hid ht
  have hs7 : W.heap.size ≤ w7.heap.size := Nat.le_trans hs6 hb.size
  clear hb ht HB6 HT6
  go_wp2_with fail
  have k2 := can_lit2 (t := 29) [h5, 1] 3 (by decide) w7 HT7.out hs7 rfl (by simp) _ rfl (by decide) 2 rfl K2.out
  simp only [List.map_cons, List.map_nil] at k2
  refine k2.mono ?_
  clear k2
  rintro e w8 ⟨rfl, hb, ht⟩
  have HB8 := Lib.hid (below_next HB7.out HB7.out.size hb)
  have HT8 := Lib.hid ht
  have hs8 : W.heap.size ≤ w8.heap.size := Nat.le_trans hs7 hb.size
  clear hb ht HB7 HT7
  go_wp2_with fail
  have k3 := can_lit2 (t := 29) [3, 2] h5 hh5 w8 HT8.out hs8 rfl (by simp) _ rfl (by decide) 2 rfl K3.out
  simp only [List.map_cons, List.map_nil] at k3
  refine k3.mono ?_
  clear k3
  rintro e w9 ⟨rfl, hb, ht⟩
  have HB9 := Lib.hid (below_next HB8.out HB8.out.size hb)
  clear hb ht HB8 HT8
  have key := awake17_any w9 (HZ.out.later HB9.out)
  go_wp2_with fail
  refine key.mono ?_
  clear key
  rintro e wa ⟨rfl, hb⟩
  have HBa := Lib.hid (below_next HB9.out HB9.out.size hb)
  clear hb
  go_wp2_with fail
  go_ret
  exact ⟨rfl, HBa.out⟩
theorem tkeys17_row {v0 : Value} (w : World) (hz : Tz w) (h0 : Tk3ArgF v0) :
    Calls Tryd.prog 7 #[v0] w fun e w' => e = .returned (.bool true) ∧ Below w.heap.size w w' := by
  obtain ⟨v, t, l, rfl, hft⟩ := h0
  exact tkeys17_walk w hz v t l hft
end Go.Proofs.YtmaedahleenlgaaDoor
