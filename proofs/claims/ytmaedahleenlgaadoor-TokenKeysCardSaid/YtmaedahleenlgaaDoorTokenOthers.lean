/- Own texts, one behind the other. Each bears its own remark. -/
import Derived.Test.YtmaedahleenlgaaDoorTokBun
import Derived.Test.YtmaedahleenlgaaDoorRow16
import Derived.Deep.RegionHeldLaw
/- The walk of TokenUnlike. No condition but the table of bit places. Printed by gen_unlike16.py. -/
set_option linter.unusedVariables false
set_option linter.unusedSimpArgs false
namespace Go.Proofs.YtmaedahleenlgaaDoor
open Go Go.RowKit Go.WideMaps

theorem mintT_wf {T : List Nd} (hw : WfT T) (key : Int) (x : Tok) : WfT (mintT T key x).1 := by
  unfold mintT
  split
  · exact hw
  · unfold tokT sealT
    exact wf_make (wf_text (wf_text hw _) _) _ _
theorem mintT_ext (T : List Nd) (key : Int) (x : Tok) : Ext 3 T (mintT T key x).1 := by
  unfold mintT
  split
  · exact (Ext.refl _).mono (by omega)
  · exact (textT_ext _ _).trans (sealT_ext _ _ _ _)
theorem X_below {w : World} {y : Tok} {A' : Option Addr} {c' : Nat} : ∀ V V', (RtAt V (w.heap.size + 1) y A' c' ∧ Rds w.heap.size V .u8 A' y.name.length c' y.name) → Below V.heap.size V V' → (RtAt V' (w.heap.size + 1) y A' c' ∧ Rds w.heap.size V' .u8 A' y.name.length c' y.name) :=
  fun V V' h hb => ⟨RtAt.b _ _ h.1 hb, h.2.below hb⟩
theorem X_frm {w : World} {B0 : Nat} {y : Tok} {A' : Option Addr} {c' : Nat} (hB : w.heap.size ≤ B0) : ∀ V V', (RtAt V (w.heap.size + 1) y A' c' ∧ Rds w.heap.size V .u8 A' y.name.length c' y.name) → Frm tabO B0 V V' → (RtAt V' (w.heap.size + 1) y A' c' ∧ Rds w.heap.size V' .u8 A' y.name.length c' y.name) :=
  fun V V' h hf => ⟨RtAt.f _ _ h.1 hf, h.2.frm (hf.weak hB).tab_sp⟩
theorem wf_sec1 : WfT [secN] := by
  have := wf_secret wfT_nil
  rwa [sec1] at this
theorem TokAt.same_tok {T : List Nd} (hw : WfT T) {h h' key tx tx' : Int} {x y : Tok} (hx : ¬ badTok x) (hy : ¬ badTok y) (bx : Byt x.name) (b_y : Byt y.name) (a : TokAt T h key (strOfNums (tokB x)) tx) (a' : TokAt T h' key (strOfNums (tokB y)) tx') : h = h' ↔ x = y := by
  rw [a.same hw a']
  constructor
  · intro e
    exact tokB_inj hx hy (strOfNums_inj (tokB_byt bx) (tokB_byt b_y) e)
  · rintro rfl; rfl

set_option maxHeartbeats 12800000 in
set_option maxRecDepth 100000 in
theorem unlike16_walk (w : World) (hz : Tz w) (x y : Tok) (A A' : Option Addr) (c c' : Nat) (hr : Rds w.heap.size w .u8 A x.name.length c x.name) (hr' : Rds w.heap.size w .u8 A' y.name.length c' y.name) (hb : Byt x.name) (hb' : Byt y.name) :
    Calls Tryd.prog 5 #[TokV x A c, TokV y A' c'] w (AwakePost w) := by
  have HZ := Lib.hid hz
  have HY := Lib.hid hb
  have HY' := Lib.hid hb'
  obtain ⟨W, hW⟩ : ∃ W, W = (w.alloc (.cells #[.bool x.later, .int .i64 x.addr, .int .i64 x.time, .slice A x.name.length c] 24)).alloc (.cells #[.bool y.later, .int .i64 y.addr, .int .i64 y.time, .slice A' y.name.length c'] 24) := ⟨_, rfl⟩
  have HBW : Hid (Below w.heap.size w W) := by rw [hW]; exact (below_new _).alloc (by simp) _
  have HX : Hid (RtAt W w.heap.size x A c) := by rw [hW]; exact (Below.heap_alloc _ _ _ (by simp)).trans (heap_alloc_new w _)
  have HQ : Hid (RtAt W (w.heap.size + 1) y A' c') := by
    have := heap_alloc_new (w.alloc (.cells #[.bool x.later, .int .i64 x.addr, .int .i64 x.time, .slice A x.name.length c] 24)) (.cells #[.bool y.later, .int .i64 y.addr, .int .i64 y.time, .slice A' y.name.length c'] 24)
    rw [World.size_alloc] at this
    rw [hW]; exact this
  have HR := Lib.hid (hr.below HBW.out)
  have HR' := Lib.hid (hr'.below HBW.out)
  have HSW : Hid (w.heap.size ≤ W.heap.size) := HBW.out.size
  clear hz hr hb hr' hb'
  simp only [TokV]
  go_enter Tryd.func5, Tryd.ntmps5
  by_cases k0 : 50 < x.name.length
  · go_wp2_with fail
    rw [← hW]
    go_ret
    exact ⟨rfl, HBW.out⟩
  by_cases k1 : 50 < y.name.length
  · go_wp2_with fail
    rw [← hW]
    go_ret
    exact ⟨rfl, HBW.out⟩
  go_wp2_with fail
  rw [← hW]
  clear hW
  refine (new_any W).mono ?_
  rintro e w1 ⟨tb, rfl, ht1, hb1⟩
  have HU1 : Hid (BunM w W.heap.size tb w.heap.size x A c (fun V => RtAt V (w.heap.size + 1) y A' c' ∧ Rds w.heap.size V .u8 A' y.name.length c' y.name) [] w1) := ⟨ht1, RtAt.b _ _ HX.out hb1, HR.out.below hb1, below_next HBW.out HBW.out.size hb1, RtAt.b _ _ HQ.out hb1, HR'.out.below hb1⟩
  have key := secret_any w1 ht1
  clear hb1 ht1 HX HQ HR HR' HBW
  go_wp2_with fail
  refine key.mono ?_
  clear key
  rintro e w2 p
  obtain ⟨rfl, ht, hf⟩ := p.intro sec1
  have HU2 := Lib.hid (HU1.out.frm (X_frm HSW.out) ht hf HSW.out)
  clear p ht hf HU1
  go_wp2_with fail
  have HUd := Lib.hid (HU2.out.below X_below (Below.refl _ _).drew)
  have S0 : Hid ((w2.drew.cell? ⟨w.heap.size, 0, none⟩ = some (.bool x.later) ∧ w2.drew.cell? ⟨w.heap.size, 1, none⟩ = some (.int .i64 x.addr) ∧ w2.drew.cell? ⟨w.heap.size, 2, none⟩ = some (.int .i64 x.time) ∧ w2.drew.cell? ⟨w.heap.size, 3, none⟩ = some (.slice A x.name.length c)) ∧ w2.drew.cell? ⟨w.heap.size + 1, 0, none⟩ = some (.bool y.later) ∧ w2.drew.cell? ⟨w.heap.size + 1, 1, none⟩ = some (.int .i64 y.addr) ∧ w2.drew.cell? ⟨w.heap.size + 1, 2, none⟩ = some (.int .i64 y.time) ∧ w2.drew.cell? ⟨w.heap.size + 1, 3, none⟩ = some (.slice A' y.name.length c')) := ⟨HUd.out.rt.cells, HUd.out.ex.1.cells⟩
  clear HU2
  go_region_held_law (fun w' => ((w'.cell? ⟨w.heap.size, 0, none⟩ = some (.bool x.later) ∧ w'.cell? ⟨w.heap.size, 1, none⟩ = some (.int .i64 x.addr) ∧ w'.cell? ⟨w.heap.size, 2, none⟩ = some (.int .i64 x.time) ∧ w'.cell? ⟨w.heap.size, 3, none⟩ = some (.slice A x.name.length c)) ∧ w'.cell? ⟨w.heap.size + 1, 0, none⟩ = some (.bool y.later) ∧ w'.cell? ⟨w.heap.size + 1, 1, none⟩ = some (.int .i64 y.addr) ∧ w'.cell? ⟨w.heap.size + 1, 2, none⟩ = some (.int .i64 y.time) ∧ w'.cell? ⟨w.heap.size + 1, 3, none⟩ = some (.slice A' y.name.length c'))) (first | with_reducible exact S0.out | with_reducible exact S3.out | with_reducible exact S4.out | with_reducible exact S5.out | with_reducible exact S6.out) ((first
    | (go_at_call 12
       have h0 := S0
       have key := of16_any x.later x.addr x.time x.name A _ c w2.drew HUd.out.nm (by omega)
       refine key.mono ?_
       clear key
       rintro e w3 ⟨A3, c3, rfl, ho, hb⟩
       have HU3 := Lib.hid (HUd.out.below X_below hb)
       have HO3 : Hid (Rds 0 w3 .u8 A3 x.name.length c3 x.name) := ho.rds
       have S3 : Hid ((w3.cell? ⟨w.heap.size, 0, none⟩ = some (.bool x.later) ∧ w3.cell? ⟨w.heap.size, 1, none⟩ = some (.int .i64 x.addr) ∧ w3.cell? ⟨w.heap.size, 2, none⟩ = some (.int .i64 x.time) ∧ w3.cell? ⟨w.heap.size, 3, none⟩ = some (.slice A x.name.length c)) ∧ w3.cell? ⟨w.heap.size + 1, 0, none⟩ = some (.bool y.later) ∧ w3.cell? ⟨w.heap.size + 1, 1, none⟩ = some (.int .i64 y.addr) ∧ w3.cell? ⟨w.heap.size + 1, 2, none⟩ = some (.int .i64 y.time) ∧ w3.cell? ⟨w.heap.size + 1, 3, none⟩ = some (.slice A' y.name.length c')) := ⟨HU3.out.rt.cells, HU3.out.ex.1.cells⟩
       clear ho hb HUd S0 h0)
    | (go_at_call 11
       have h0 := HO3
       have key := mint_any 1 x.later x.addr x.time x.name A3 _ c3 w3 HU3.out.tab ⟨by decide, by decide⟩ HO3.out (by omega) (HZ.out.later HU3.out.bl)
       refine key.mono ?_
       clear key
       rintro e w4 p
       obtain ⟨⟨T4, h4⟩, e4⟩ : ∃ r, mintT [secN] 1 x = r := ⟨_, rfl⟩
       obtain ⟨rfl, ht, hf⟩ := p.intro e4
       have E4 := Lib.hid e4
       have HU4 := Lib.hid (HU3.out.frm (X_frm HSW.out) ht hf HSW.out)
       have S4 : Hid ((w4.cell? ⟨w.heap.size, 0, none⟩ = some (.bool x.later) ∧ w4.cell? ⟨w.heap.size, 1, none⟩ = some (.int .i64 x.addr) ∧ w4.cell? ⟨w.heap.size, 2, none⟩ = some (.int .i64 x.time) ∧ w4.cell? ⟨w.heap.size, 3, none⟩ = some (.slice A x.name.length c)) ∧ w4.cell? ⟨w.heap.size + 1, 0, none⟩ = some (.bool y.later) ∧ w4.cell? ⟨w.heap.size + 1, 1, none⟩ = some (.int .i64 y.addr) ∧ w4.cell? ⟨w.heap.size + 1, 2, none⟩ = some (.int .i64 y.time) ∧ w4.cell? ⟨w.heap.size + 1, 3, none⟩ = some (.slice A' y.name.length c')) := ⟨HU4.out.rt.cells, HU4.out.ex.1.cells⟩
       clear p e4 ht hf HU3 HO3 S3 h0)
    | (go_at_call 12
       have h0 := S4
       have key := of16_any y.later y.addr y.time y.name A' _ c' w4 HU4.out.ex.2 (by omega)
       refine key.mono ?_
       clear key
       rintro e w5 ⟨A5, c5, rfl, ho, hb⟩
       have HU5 := Lib.hid (HU4.out.below X_below hb)
       have HO5 : Hid (Rds 0 w5 .u8 A5 y.name.length c5 y.name) := ho.rds
       have S5 : Hid ((w5.cell? ⟨w.heap.size, 0, none⟩ = some (.bool x.later) ∧ w5.cell? ⟨w.heap.size, 1, none⟩ = some (.int .i64 x.addr) ∧ w5.cell? ⟨w.heap.size, 2, none⟩ = some (.int .i64 x.time) ∧ w5.cell? ⟨w.heap.size, 3, none⟩ = some (.slice A x.name.length c)) ∧ w5.cell? ⟨w.heap.size + 1, 0, none⟩ = some (.bool y.later) ∧ w5.cell? ⟨w.heap.size + 1, 1, none⟩ = some (.int .i64 y.addr) ∧ w5.cell? ⟨w.heap.size + 1, 2, none⟩ = some (.int .i64 y.time) ∧ w5.cell? ⟨w.heap.size + 1, 3, none⟩ = some (.slice A' y.name.length c')) := ⟨HU5.out.rt.cells, HU5.out.ex.1.cells⟩
       clear ho hb HU4 S4 h0)
    | (go_at_call 11
       have h0 := HO5
       have key := mint_any 1 y.later y.addr y.time y.name A5 _ c5 w5 HU5.out.tab ⟨by decide, by decide⟩ HO5.out (by omega) (HZ.out.later HU5.out.bl)
       refine key.mono ?_
       clear key
       rintro e w6 p
       obtain ⟨⟨T6, h6⟩, e6⟩ : ∃ r, mintT T4 1 y = r := ⟨_, rfl⟩
       obtain ⟨rfl, ht, hf⟩ := p.intro e6
       have E6 := Lib.hid e6
       have HU6 := Lib.hid (HU5.out.frm (X_frm HSW.out) ht hf HSW.out)
       have S6 : Hid ((w6.cell? ⟨w.heap.size, 0, none⟩ = some (.bool x.later) ∧ w6.cell? ⟨w.heap.size, 1, none⟩ = some (.int .i64 x.addr) ∧ w6.cell? ⟨w.heap.size, 2, none⟩ = some (.int .i64 x.time) ∧ w6.cell? ⟨w.heap.size, 3, none⟩ = some (.slice A x.name.length c)) ∧ w6.cell? ⟨w.heap.size + 1, 0, none⟩ = some (.bool y.later) ∧ w6.cell? ⟨w.heap.size + 1, 1, none⟩ = some (.int .i64 y.addr) ∧ w6.cell? ⟨w.heap.size + 1, 2, none⟩ = some (.int .i64 y.time) ∧ w6.cell? ⟨w.heap.size + 1, 3, none⟩ = some (.slice A' y.name.length c')) := ⟨HU6.out.rt.cells, HU6.out.ex.1.cells⟩
       clear p e6 ht hf HU5 HO5 S5 h0)))
  all_goals
    rename_i hHeld
    clear hHeld
    by_cases ha : h4 = 0
    · have hab : (h4 == 0) = true := by simp [ha]
      have key := awake16_any w6 (HZ.out.later HU6.out.bl)
      clear ha S6
      go_wp2_with fail
      refine key.mono ?_
      clear key
      rintro e w7 ⟨rfl, hb⟩
      have HB7 := Lib.hid (below_next HU6.out.bl HU6.out.bl.size hb)
      clear hb
      go_wp2_with fail
      go_ret
      exact ⟨rfl, HB7.out⟩
    have hab : (h4 == 0) = false := by simp [ha]
    by_cases hc : h6 = 0
    · have hcb : (h6 == 0) = true := by simp [hc]
      have key := awake16_any w6 (HZ.out.later HU6.out.bl)
      clear hc ha S6
      go_wp2_with fail
      refine key.mono ?_
      clear key
      rintro e w7 ⟨rfl, hb⟩
      have HB7 := Lib.hid (below_next HU6.out.bl HU6.out.bl.size hb)
      clear hb
      go_wp2_with fail
      go_ret
      exact ⟨rfl, HB7.out⟩
    have hcb : (h6 == 0) = false := by simp [hc]
    have hbx : ¬ badTok x := fun k => by have := E4.out; rw [mintT_no k] at this; injection this with _ q; exact ha q.symm
    have hby : ¬ badTok y := fun k => by have := E6.out; rw [mintT_no k] at this; injection this with _ q; exact hc q.symm
    obtain ⟨tx, a1, x1⟩ := mint_at (T := [secN]) (key := 1) (x := x) wf_sec1 (by decide) sec_in1 hbx
    have n1 := x1.len
    have wf4 := mintT_wf wf_sec1 1 x
    have in4 := sec_in1.ext x1
    rw [E4.out] at a1 n1 wf4 in4
    obtain ⟨ty, a2, x2⟩ := mint_at (T := T4) (key := 1) (x := y) wf4 (by simp only [List.length_cons, List.length_nil] at n1; omega) in4 hby
    rw [E6.out] at a2 x2
    have HS : Hid (h4 = h6 ↔ x = y) := TokAt.same_tok HU6.out.tab.1 hbx hby HY.out HY'.out (a1.ext x2) a2
    have hdec : (h4 == h6) = decide (x = y) := by
      by_cases q : x = y
      · rw [decide_eq_true q, beq_iff_eq]; exact HS.out.2 q
      · rw [decide_eq_false q, beq_eq_false_iff_ne]; exact fun k => q (HS.out.1 k)
    obtain ⟨r, hr⟩ : ∃ r, r = decide (x = y) := ⟨_, rfl⟩
    rw [← hr] at hdec
    have HRr := Lib.hid hr
    clear ha hc hbx hby a1 x1 n1 wf4 in4 a2 x2 hr
    go_wp2_with fail
    have HUe := Lib.hid (HU6.out.below X_below (Below.refl _ _).drew)
    have Q0 : Hid ((w6.drew.cell? ⟨w.heap.size, 0, none⟩ = some (.bool x.later) ∧ w6.drew.cell? ⟨w.heap.size, 1, none⟩ = some (.int .i64 x.addr) ∧ w6.drew.cell? ⟨w.heap.size, 2, none⟩ = some (.int .i64 x.time) ∧ w6.drew.cell? ⟨w.heap.size, 3, none⟩ = some (.slice A x.name.length c)) ∧ w6.drew.cell? ⟨w.heap.size + 1, 0, none⟩ = some (.bool y.later) ∧ w6.drew.cell? ⟨w.heap.size + 1, 1, none⟩ = some (.int .i64 y.addr) ∧ w6.drew.cell? ⟨w.heap.size + 1, 2, none⟩ = some (.int .i64 y.time) ∧ w6.drew.cell? ⟨w.heap.size + 1, 3, none⟩ = some (.slice A' y.name.length c')) := ⟨HUe.out.rt.cells, HUe.out.ex.1.cells⟩
    clear HU6 S6
    go_region_held_law (fun w' => ((w'.cell? ⟨w.heap.size, 0, none⟩ = some (.bool x.later) ∧ w'.cell? ⟨w.heap.size, 1, none⟩ = some (.int .i64 x.addr) ∧ w'.cell? ⟨w.heap.size, 2, none⟩ = some (.int .i64 x.time) ∧ w'.cell? ⟨w.heap.size, 3, none⟩ = some (.slice A x.name.length c)) ∧ w'.cell? ⟨w.heap.size + 1, 0, none⟩ = some (.bool y.later) ∧ w'.cell? ⟨w.heap.size + 1, 1, none⟩ = some (.int .i64 y.addr) ∧ w'.cell? ⟨w.heap.size + 1, 2, none⟩ = some (.int .i64 y.time) ∧ w'.cell? ⟨w.heap.size + 1, 3, none⟩ = some (.slice A' y.name.length c'))) (first | with_reducible exact Q0.out | with_reducible exact Q1.out | with_reducible exact Q2.out | with_reducible exact Q3.out) ((first
      | (go_at_call 12
         have h0 := Q0
         have key := of16_any x.later x.addr x.time x.name A _ c w6.drew HUe.out.nm (by omega)
         refine key.mono ?_
         clear key
         rintro e w7 ⟨A7, c7, rfl, ho, hb⟩
         have HU7 := Lib.hid (HUe.out.below X_below hb)
         have HO7 : Hid (Rds 0 w7 .u8 A7 x.name.length c7 x.name) := ho.rds
         have Q1 : Hid ((w7.cell? ⟨w.heap.size, 0, none⟩ = some (.bool x.later) ∧ w7.cell? ⟨w.heap.size, 1, none⟩ = some (.int .i64 x.addr) ∧ w7.cell? ⟨w.heap.size, 2, none⟩ = some (.int .i64 x.time) ∧ w7.cell? ⟨w.heap.size, 3, none⟩ = some (.slice A x.name.length c)) ∧ w7.cell? ⟨w.heap.size + 1, 0, none⟩ = some (.bool y.later) ∧ w7.cell? ⟨w.heap.size + 1, 1, none⟩ = some (.int .i64 y.addr) ∧ w7.cell? ⟨w.heap.size + 1, 2, none⟩ = some (.int .i64 y.time) ∧ w7.cell? ⟨w.heap.size + 1, 3, none⟩ = some (.slice A' y.name.length c')) := ⟨HU7.out.rt.cells, HU7.out.ex.1.cells⟩
         clear ho hb HUe Q0 h0)
      | (go_at_call 20
         have h0 := HO7
         have key := told16_any x y A7 A' c7 c' w7 HO7.out HU7.out.ex.2 HY.out HY'.out
         rw [← HRr.out] at key
         refine key.mono ?_
         clear key
         rintro e w8 ⟨rfl, hb⟩
         have HU8 := Lib.hid (HU7.out.below X_below hb)
         have Q2 : Hid ((w8.cell? ⟨w.heap.size, 0, none⟩ = some (.bool x.later) ∧ w8.cell? ⟨w.heap.size, 1, none⟩ = some (.int .i64 x.addr) ∧ w8.cell? ⟨w.heap.size, 2, none⟩ = some (.int .i64 x.time) ∧ w8.cell? ⟨w.heap.size, 3, none⟩ = some (.slice A x.name.length c)) ∧ w8.cell? ⟨w.heap.size + 1, 0, none⟩ = some (.bool y.later) ∧ w8.cell? ⟨w.heap.size + 1, 1, none⟩ = some (.int .i64 y.addr) ∧ w8.cell? ⟨w.heap.size + 1, 2, none⟩ = some (.int .i64 y.time) ∧ w8.cell? ⟨w.heap.size + 1, 3, none⟩ = some (.slice A' y.name.length c')) := ⟨HU8.out.rt.cells, HU8.out.ex.1.cells⟩
         clear hb HU7 HO7 Q1 h0)
      | (go_at_call 14
         have h0 := HU8
         have key := awake16_any w8 (HZ.out.later HU8.out.bl)
         refine key.mono ?_
         clear key
         rintro e w9 ⟨rfl, hb⟩
         have HU9 := Lib.hid (HU8.out.below X_below hb)
         have Q3 : Hid ((w9.cell? ⟨w.heap.size, 0, none⟩ = some (.bool x.later) ∧ w9.cell? ⟨w.heap.size, 1, none⟩ = some (.int .i64 x.addr) ∧ w9.cell? ⟨w.heap.size, 2, none⟩ = some (.int .i64 x.time) ∧ w9.cell? ⟨w.heap.size, 3, none⟩ = some (.slice A x.name.length c)) ∧ w9.cell? ⟨w.heap.size + 1, 0, none⟩ = some (.bool y.later) ∧ w9.cell? ⟨w.heap.size + 1, 1, none⟩ = some (.int .i64 y.addr) ∧ w9.cell? ⟨w.heap.size + 1, 2, none⟩ = some (.int .i64 y.time) ∧ w9.cell? ⟨w.heap.size + 1, 3, none⟩ = some (.slice A' y.name.length c')) := ⟨HU9.out.rt.cells, HU9.out.ex.1.cells⟩
         clear hb HU8 Q2 h0)))
    all_goals
      rename_i hHeld
      clear hHeld
      go_wp2_with fail
      go_ret
      exact ⟨rfl, HU9.out.bl⟩
theorem unlike16_row {v0 v1 : Value} (w : World) (hz : Tz w) (h0 : TokArg w v0) (h1 : TokArg w v1) :
    Calls Tryd.prog 5 #[v0, v1] w fun e w' => e = .returned (.bool true) ∧ Below w.heap.size w w' := by
  obtain ⟨x, A, c, rfl, hr, hb⟩ := h0
  obtain ⟨y, A', c', rfl, hr', hb'⟩ := h1
  exact unlike16_walk w hz x y A A' c c' hr hr' hb hb'
end Go.Proofs.YtmaedahleenlgaaDoor

/- The walk of TokenOthers. No condition but the table of bit places. Printed by gen_tothers.py. -/
set_option linter.unusedVariables false
set_option linter.unusedSimpArgs false
namespace Go.Proofs.YtmaedahleenlgaaDoor
open Go Go.RowKit Go.WideMaps

theorem nodeT_zero (T : List Nd) : nodeK (nodeT T 0) = none := by
  have : nodeT T 0 = ⟨0, ByteArray.empty, []⟩ := by unfold nodeT; rw [getT_none (by omega)]; rfl
  rw [this]
  exact if_neg (by show ¬ (0 : Int) = 1; decide)
theorem lookK_shut {T : List Nd} {key h : Int} (e : (openV T key tokenS h).1 = 0) : lookK T key h = none := by unfold lookK; rw [e]; exact nodeT_zero T
theorem lookK_kind {T : List Nd} {key h : Int} {nd : Nd} (e : getT T h = some nd) (k : nd.kind ≠ 10) : lookK T key h = none := lookK_shut (by rw [openV_kind e k])
theorem lookK_none {T : List Nd} {key h : Int} (e : getT T h = none) : lookK T key h = none := lookK_shut (by rw [openV_none e])
theorem lookXE {T : List Nd} {key h : Int} (e : lookK T key h = none) : lookX T key h = tok0 ∧ lookE T key h = 14 := by
  constructor
  · unfold lookX; rw [e]; rfl
  · unfold lookE; rw [e]; rfl
theorem token_list {sh : ByteArray} : sh = tokenS ↔ sh.toList = [116, 111, 107, 101, 110] := by
  constructor
  · rintro rfl
    rw [ByteArray.toList_eq]
    rfl
  · intro h
    rw [ByteArray.toList_eq] at h
    have : sh.data = #[116, 111, 107, 101, 110] := by rw [← Array.toList_inj]; exact h
    cases sh; simp only at this; subst this; rfl

set_option maxHeartbeats 12800000 in
set_option maxRecDepth 100000 in
theorem tothers_walk (w : World) (hz : Tz w) (A0 : Option Addr) (n0 c0 : Nat) (hs : List Int) (hr0 : Rds w.heap.size w .u8 A0 n0 c0 hs) (x : Tok) (A : Option Addr) (c : Nat) (hr : Rds w.heap.size w .u8 A x.name.length c x.name) (hb : Byt x.name) :
    Calls Tryd.prog 6 #[.slice A0 n0 c0, TokV x A c] w (AwakePost w) := by
  have HZ := Lib.hid hz
  have HY := Lib.hid hb
  have HH := Lib.hid hr0
  have HHl := Lib.hid hr0.len
  obtain ⟨W, hW⟩ : ∃ W, W = w.alloc (.cells #[.bool x.later, .int .i64 x.addr, .int .i64 x.time, .slice A x.name.length c] 24) := ⟨_, rfl⟩
  have HBW : Hid (Below w.heap.size w W) := by rw [hW]; exact below_new _
  have HX : Hid (RtAt W w.heap.size x A c) := by rw [hW]; exact heap_alloc_new w _
  have HR := Lib.hid (hr.below HBW.out)
  have HSW : Hid (w.heap.size ≤ W.heap.size) := HBW.out.size
  clear hz hr hb hr0
  simp only [TokV]
  go_enter Tryd.func6, Tryd.ntmps6
  by_cases k0 : 50 < n0
  · go_wp2_with fail
    rw [← hW]
    go_ret
    exact ⟨rfl, HBW.out⟩
  by_cases k1 : 50 < x.name.length
  · go_wp2_with fail
    rw [← hW]
    go_ret
    exact ⟨rfl, HBW.out⟩
  go_wp2_with fail
  rw [← hW]
  clear hW
  refine (new_any W).mono ?_
  rintro e w1 ⟨tb, rfl, ht1, hb1⟩
  have HU1 : Hid (BunM w W.heap.size tb w.heap.size x A c (fun _ => True) [] w1) := ⟨ht1, RtAt.b _ _ HX.out hb1, HR.out.below hb1, below_next HBW.out HBW.out.size hb1, trivial⟩
  have key := secret_any w1 ht1
  clear hb1 ht1 HX HR HBW
  go_wp2_with fail
  refine key.mono ?_
  clear key
  rintro e w2 p
  obtain ⟨rfl, ht, hf⟩ := p.intro sec1
  have HU2 := Lib.hid (HU1.out.frm (fun _ _ _ _ => trivial) ht hf HSW.out)
  obtain ⟨y0, y1, y2, y3⟩ := HU2.out.rt.cells
  have key := r16text_any x.later x.addr x.time x.name A _ c w2 HU2.out.nm (by omega)
  rw [show (⟨x.later, x.addr, x.time, x.name⟩ : Tok) = x from rfl] at key
  obtain ⟨zs, hzs⟩ : ∃ zs, zs = tokB x := ⟨_, rfl⟩
  rw [← hzs] at key
  have HZS := Lib.hid hzs
  clear p ht hf HU1
  go_wp2_with fail
  refine key.mono ?_
  clear key
  rintro e w3 ⟨v3, rfl, ho, hb⟩
  obtain ⟨A3, c3, rfl⟩ := ho.slice
  have HT3 := Lib.hid (HU2.out.tab.below hb)
  have HB3 := Lib.hid (below_next HU2.out.bl HU2.out.bl.size hb)
  have HO3 := Lib.hid (ho.rds (B' := 0))
  clear ho hb HU2 y0 y1 y2 y3
  by_cases hbad : badTok x
  · have hlb : ((zs.length : Int) == 0) = true := by rw [hzs, tokB_no hbad]; rfl
    have key := awake16_any w3 (HZ.out.later HB3.out)
    clear hbad hzs
    go_wp2_with fail
    refine key.mono ?_
    clear key
    rintro e w4 ⟨rfl, hb⟩
    have HB4 := Lib.hid (below_next HB3.out HB3.out.size hb)
    clear hb
    go_wp2_with fail
    go_ret
    exact ⟨rfl, HB4.out⟩
  have hlen := tokB_len hbad
  rw [← hzs] at hlen
  have hlb : ((zs.length : Int) == 0) = false := by rw [beq_eq_false_iff_ne]; omega
  have HBAD := Lib.hid hbad
  have HRK : Hid (readK (numsL (strOfNums zs)) = some x) := by show _ = _; rw [hzs, numsL_str (tokB_byt HY.out), readK_tokB hbad]
  have hsz : (strOfNums zs).size ≤ 2048 := by rw [strOfNums_size]; omega
  obtain ⟨b, hbs⟩ : ∃ b, b = strOfNums zs := ⟨_, rfl⟩
  -- the text
  have g4 := text_get (T := [secN]) (b := b) (by rw [hbs]; exact hsz) (by decide)
  have x4 := textT_ext [secN] b
  have key := text_any A3 _ c3 zs w3 HT3.out HO3.out
  rw [← hbs] at key HRK
  have HBS := Lib.hid hbs
  have HSZ : Hid (b.size ≤ 2048) := by show _ ≤ _; rw [hbs]; exact hsz
  clear hbad hlen hzs hsz hbs
  go_wp2_with fail
  refine key.mono ?_
  clear key
  rintro e w4 p
  obtain ⟨⟨T4, h4⟩, e4⟩ : ∃ r, textT [secN] b = r := ⟨_, rfl⟩
  rw [e4] at g4 x4
  simp only at g4 x4
  obtain ⟨rfl, ht, hf⟩ := p.intro e4
  have HT4 := Lib.hid ht
  have HB4 := Lib.hid (HB3.out.trans ((hf.weak HSW.out).below HB3.out.size))
  have HO4 := Lib.hid (HO3.out.frm (hf.weak (Nat.zero_le _)).tab_sp)
  have N4 := x4.len
  simp only [List.length_cons, List.length_nil] at N4
  have HG4 : Hid (getT T4 h4 = some (nT b)) := g4
  have HI4 : Hid (In T4 1) := sec_in1.ext x4
  have HF4 := Lib.hid (fit_in ht.1 (.of g4))
  have HN4 := Lib.hid N4
  -- sealed under the head
  obtain ⟨sh, hsh⟩ : ∃ sh, sh = strOfNums hs := ⟨_, rfl⟩
  have HSH := Lib.hid hsh
  have key := seal_any 1 A0 n0 c0 hs h4 w4 HT4.out ⟨by decide, by decide⟩ HF4.out (HH.out.below HB4.out)
  rw [← hsh] at key
  clear p e4 ht hf g4 x4 N4 HT3 HB3 HO3 hsh
  go_wp2_with fail
  refine key.mono ?_
  clear key
  rintro e w5 p
  have sa := seal_at (k := 1) (c := h4) (hd := sh) HT4.out.1 (by rw [HSH.out, strOfNums_size, HHl.out]; omega) (by have := HN4.out; omega) HI4.out (.of HG4.out)
  have x5 := sealT_ext T4 1 sh h4
  obtain ⟨⟨T5, h5⟩, e5⟩ : ∃ r, sealT T4 1 sh h4 = r := ⟨_, rfl⟩
  rw [e5] at sa x5
  simp only at sa x5
  obtain ⟨rfl, ht, hf⟩ := p.intro e5
  have HT5 := Lib.hid ht
  have HB5 := Lib.hid (HB4.out.trans ((hf.weak HSW.out).below HB4.out.size))
  have HO5 := Lib.hid (HO4.out.frm (hf.weak (Nat.zero_le _)).tab_sp)
  have HG5 := Lib.hid (x5.get HG4.out)
  have HI5 := Lib.hid (HI4.out.ext x5)
  have HN5 : Hid (T5.length ≤ 4) := by show _ ≤ _; have := x5.len; have := HN4.out; omega
  have HLK : Hid (lookK T5 1 h5 = if sh = tokenS then some x else none) := by
    show _ = _
    by_cases q : sh = tokenS
    · rw [if_pos q]
      subst q
      have a : TokAt T5 h5 1 b h4 := ⟨sa, HG5.out⟩
      rw [a.look, HRK.out]
    · rw [if_neg q]
      refine lookK_shut ?_
      have := sa.open_ (key' := 1) (hd' := tokenS)
      rw [this, show openT 1 h4 1 sh tokenS = (0, false) from if_neg fun k => q k.2]
  have key := tlook_any 1 h5 w5 HT5.out (fit_in ht.1 sa.in_)
  obtain ⟨X, hX⟩ : ∃ X, X = lookX T5 1 h5 := ⟨_, rfl⟩
  obtain ⟨E, hE⟩ : ∃ E, E = lookE T5 1 h5 := ⟨_, rfl⟩
  rw [← hX, ← hE] at key
  have HE : Hid (E = if sh = tokenS then 0 else 14) := by
    show _ = _
    rw [hE]
    unfold lookE
    rw [HLK.out]
    split <;> rfl
  clear p e5 ht hf sa x5 HT4 HB4 HO4 HG4 HI4 HN4 HF4 hX hE HLK HRK
  go_wp2_with fail
  refine key.mono ?_
  clear key
  rintro e w6 ⟨A6, c6, rfl, ho, hb⟩
  simp only [TokV]
  obtain ⟨V6, hV⟩ : ∃ V, V = w6.alloc (.cells #[.bool X.later, .int .i64 X.addr, .int .i64 X.time, .slice A6 X.name.length c6] 32) := ⟨_, rfl⟩
  have hBV : Below w6.heap.size w6 V6 := by rw [hV]; exact below_new _
  have hb8 := below_next hb hb.size hBV
  have HT6 := Lib.hid (HT5.out.below hb8)
  have HB6 := Lib.hid (below_next HB5.out HB5.out.size hb8)
  have HO6 := Lib.hid (HO5.out.below hb8)
  have hS6 : w6.heap.size + 1 = V6.heap.size := by rw [hV]; simp
  -- a secret, sealed
  have hcv := run_const_bytes V6 #[.int .u8 116, .int .u8 111, .int .u8 107, .int .u8 101, .int .u8 110] 5 5
  rw [← hS6, hV] at hcv
  have hconv := Lib.hid hcv
  obtain ⟨V7, hV7⟩ : ∃ V, V = V6.alloc (.cells #[.int .u8 116, .int .u8 111, .int .u8 107, .int .u8 101, .int .u8 110] 5 (5, 6)) := ⟨_, rfl⟩
  have hrd : Rds 0 V7 .u8 (some ⟨w6.heap.size + 1, 0, none⟩) 5 5 tokenL := by
    rw [hV7]
    exact rds_marked (xs := tokenL) (t := 5) (5, 6) hS6.symm (by decide) _ rfl 5 rfl (by decide)
  have hB7 : Below V6.heap.size V6 V7 := by rw [hV7]; exact below_new _
  have HT7 := Lib.hid (HT6.out.below hB7)
  have HB7 := Lib.hid (below_next HB6.out HB6.out.size hB7)
  have HO7 := Lib.hid (HO6.out.below hB7)
  have HRd := Lib.hid hrd
  have key := secret_any V7 HT7.out
  rw [hV] at hV7
  clear ho hb hb8 hBV hcv hrd hB7 hS6 HT5 HB5 HO5 HT6 HB6 HO6 hV
  go_wp2_with ((with_reducible show wpList _ _ _ (Oper.mk _ (Op.convert 22 22 _) _ _ _ _ :: _) _ _); refine wp_convert rfl _ _ _ rfl rfl hconv.out ?_)
  rw [← hV7]
  clear hV7 hconv
  refine key.mono ?_
  clear key
  rintro e w8 p
  have g8 := secret_get (T := T5) (by have := HN5.out; omega)
  have x8 := secretT_ext T5
  obtain ⟨⟨T8, h8⟩, e8⟩ : ∃ r, secretT T5 = r := ⟨_, rfl⟩
  rw [e8] at g8 x8
  simp only at g8 x8
  obtain ⟨rfl, ht, hf⟩ := p.intro e8
  have HT8 := Lib.hid ht
  have HB8 := Lib.hid (HB7.out.trans ((hf.weak HSW.out).below HB7.out.size))
  have HO8 := Lib.hid (HO7.out.frm (hf.weak (Nat.zero_le _)).tab_sp)
  have HRd8 := Lib.hid (HRd.out.frm (hf.weak (Nat.zero_le _)).tab_sp)
  have HG8 : Hid (getT T8 h8 = some ⟨2, ByteArray.empty, []⟩) := g8
  have HI8 := Lib.hid (HI5.out.ext x8)
  have HN8 : Hid (T8.length ≤ 5) := by show _ ≤ _; have := x8.len; have := HN5.out; omega
  have HF8 := Lib.hid (fit_in ht.1 (.of g8))
  have key := seal_any 1 (some ⟨w6.heap.size + 1, 0, none⟩) 5 5 tokenL h8 w8 HT8.out ⟨by decide, by decide⟩ HF8.out HRd8.out
  rw [token_str] at key
  clear p e8 ht hf g8 x8 HT7 HB7 HO7 HRd HI5 HN5 HG5
  go_wp2_with fail
  refine key.mono ?_
  clear key
  rintro e w9 p
  have sa := seal_at (k := 1) (c := h8) (hd := tokenS) HT8.out.1 (by decide) (by have := HN8.out; omega) HI8.out (.of HG8.out)
  have x9 := sealT_ext T8 1 tokenS h8
  obtain ⟨⟨T9, h9⟩, e9⟩ : ∃ r, sealT T8 1 tokenS h8 = r := ⟨_, rfl⟩
  rw [e9] at sa x9
  simp only at sa x9
  obtain ⟨rfl, ht, hf⟩ := p.intro e9
  have HT9 := Lib.hid ht
  have HB9 := Lib.hid (HB8.out.trans ((hf.weak HSW.out).below HB8.out.size))
  have HO9 := Lib.hid (HO8.out.frm (hf.weak (Nat.zero_le _)).tab_sp)
  have HN9 : Hid (T9.length ≤ 7) := by show _ ≤ _; have := x9.len; have := HN8.out; omega
  have hlk : lookK T9 1 h9 = none := by
    unfold lookK
    rw [sa.open_, show openT 1 h8 1 tokenS tokenS = (h8, true) from if_pos ⟨rfl, rfl⟩]
    have e : nodeT T9 h8 = ⟨2, ByteArray.empty, []⟩ := by unfold nodeT; rw [x9.get HG8.out]; rfl
    show nodeK (nodeT T9 h8) = none
    rw [e]
    exact if_neg (by show ¬ (2 : Int) = 1; decide)
  have key := tlook_any 1 h9 w9 HT9.out (fit_in ht.1 sa.in_)
  rw [(lookXE hlk).1, (lookXE hlk).2] at key
  clear p e9 ht hf sa x9 hlk HT8 HB8 HO8 HRd8 HG8 HI8 HN8 HF8
  go_wp2_with fail
  refine key.mono ?_
  clear key
  rintro e w10 ⟨A10, c10, rfl, ho, hb⟩
  simp only [TokV, tok0, List.length_nil]
  obtain ⟨V10, hV⟩ : ∃ V, V = w10.alloc (.cells #[.bool false, .int .i64 0, .int .i64 0, .slice A10 0 c10] 32) := ⟨_, rfl⟩
  have hBV : Below w10.heap.size w10 V10 := by rw [hV]; exact below_new _
  have hb8 := below_next hb hb.size hBV
  have HT10 := Lib.hid (HT9.out.below hb8)
  have HB10 := Lib.hid (below_next HB9.out HB9.out.size hb8)
  have HO10 := Lib.hid (HO9.out.below hb8)
  -- the text alone
  have key := text_any A3 _ c3 zs V10 HT10.out HO10.out
  rw [← HBS.out] at key
  clear ho hb hb8 hBV HT9 HB9 HO9
  go_wp2_with fail
  rw [← hV]
  clear hV
  refine key.mono ?_
  clear key
  rintro e w11 p
  have g11 := text_get (T := T9) (b := b) HSZ.out (by have := HN9.out; omega)
  obtain ⟨⟨T11, h11⟩, e11⟩ : ∃ r, textT T9 b = r := ⟨_, rfl⟩
  rw [e11] at g11
  obtain ⟨rfl, ht, hf⟩ := p.intro e11
  have HT11 := Lib.hid ht
  have HB11 := Lib.hid (HB10.out.trans ((hf.weak HSW.out).below HB10.out.size))
  have hlk : lookK T11 1 h11 = none := lookK_kind g11 (by simp [nT])
  have key := tlook_any 1 h11 w11 HT11.out (fit_in ht.1 (.of g11))
  rw [(lookXE hlk).1, (lookXE hlk).2] at key
  clear p e11 ht hf g11 hlk HT10 HB10 HO10 HN9
  go_wp2_with fail
  refine key.mono ?_
  clear key
  rintro e w12 ⟨A12, c12, rfl, ho, hb⟩
  simp only [TokV, tok0, List.length_nil]
  obtain ⟨V12, hV⟩ : ∃ V, V = w12.alloc (.cells #[.bool false, .int .i64 0, .int .i64 0, .slice A12 0 c12] 32) := ⟨_, rfl⟩
  have hBV : Below w12.heap.size w12 V12 := by rw [hV]; exact below_new _
  have hb8 := below_next hb hb.size hBV
  have HT12 := Lib.hid (HT11.out.below hb8)
  have HB12 := Lib.hid (below_next HB11.out HB11.out.size hb8)
  have hlk : lookK T11 1 0 = none := lookK_none (getT_none (by omega))
  have key := tlook_any 1 0 V12 HT12.out ⟨by decide, by decide⟩
  rw [(lookXE hlk).1, (lookXE hlk).2] at key
  clear ho hb hb8 hBV HT11 HB11 hlk
  go_wp2_with fail
  rw [← hV]
  clear hV
  refine key.mono ?_
  clear key
  rintro e w13 ⟨A13, c13, rfl, ho, hb⟩
  simp only [TokV, tok0, List.length_nil]
  have HB13 := Lib.hid (below_next HB12.out HB12.out.size (below_next hb hb.size (below_new (.cells #[.bool false, .int .i64 0, .int .i64 0, .slice A13 0 c13] 32))))
  have hcs := run_bytes_string (HH.out.below HB13.out)
  rw [← HSH.out] at hcs
  have key := awake16_any _ (HZ.out.later HB13.out)
  clear ho hb HT12 HB12
  by_cases hhd : sh = tokenS
  · have h0 : E = 0 := by rw [HE.out, if_pos hhd]
    have hcmp : sh.toList = [116, 111, 107, 101, 110] := token_list.1 hhd
    have hEb : (E == 0) = true := by rw [h0]; rfl
    clear hhd h0
    go_wp2_with fail
    refine key.mono ?_
    clear key
    rintro e w14 ⟨rfl, hb⟩
    have HB14 := Lib.hid (below_next HB13.out HB13.out.size hb)
    clear hb
    go_wp2_with fail
    go_ret
    exact ⟨rfl, HB14.out⟩
  · have h0 : E = 14 := by rw [HE.out, if_neg hhd]
    have hcmp : ¬ sh.toList = [116, 111, 107, 101, 110] := fun e => hhd (token_list.2 e)
    have hcb : (sh.toList == [116, 111, 107, 101, 110]) = false := beq_eq_false_iff_ne.2 hcmp
    have hEb : (E == 0) = false := by rw [h0]; rfl
    clear hhd h0
    go_wp2_with fail
    refine key.mono ?_
    clear key
    rintro e w14 ⟨rfl, hb⟩
    have HB14 := Lib.hid (below_next HB13.out HB13.out.size hb)
    clear hb
    go_wp2_with fail
    go_ret
    exact ⟨rfl, HB14.out⟩
theorem tothers_row {v1 : Value} {A0 : Option Addr} {n0 c0 : Nat} (w : World) (hz : Tz w) (h : ∃ xs, Rds w.heap.size w .u8 A0 n0 c0 xs ∧ Byt xs) (h0 : TokArg w v1) :
    Calls Tryd.prog 6 #[.slice A0 n0 c0, v1] w fun e w' => e = .returned (.bool true) ∧ Below w.heap.size w w' := by
  obtain ⟨x, A, c, rfl, hr, hb⟩ := h0
  obtain ⟨xs, hx, -⟩ := h
  exact tothers_walk w hz A0 n0 c0 xs hx x A c hr hb
end Go.Proofs.YtmaedahleenlgaaDoor
