/- The walk of SchedNone. No condition. -/
import Derived.Test.YtbcicfgffjgpdaaLaw15
set_option linter.unusedVariables false
set_option linter.unusedSimpArgs false
namespace Go.Proofs.Ytbcicfgffjgpdaa
open Go Go.RowKit Go.WideMaps

/-- A number that no term of a small table has. -/
def Out (x : Int) : Prop := ∀ T : List Nd, T.length ≤ 100 → ¬ In T x
theorem out_int {x : Int} (h : x = 0 ∨ x < 0 ∨ 100 < x) : Out x := fun T hT => out_of (by omega)
theorem out_zero : Out 0 := out_int (.inl rfl)
theorem make_out' {T : List Nd} {k x : Int} {p : List Int} (hx : Out x) (hp : x ∈ p) (hT : T.length ≤ 100) : (makeT T k p).2 = 0 := by rw [make_out hp (hx T hT)]
theorem der_out_s {T : List Nd} {x c : Int} {l : ByteArray} (hx : Out x) (hT : T.length ≤ 90) : (deriveT T x l c).2 = 0 := by
  unfold deriveT
  have h1 : Ext 1 T (ctxT T c).1 := by
    unfold ctxT
    split
    · exact textT_ext _ _
    · exact (Ext.refl _).mono (by omega)
  have := (h1.trans (textT_ext (ctxT T c).1 l)).len
  exact make_out' hx (by simp) (by omega)
theorem der_out_c {T : List Nd} {x s : Int} {l : ByteArray} (hx : Out x) (h0 : x ≠ 0) (hT : T.length ≤ 90) : (deriveT T s l x).2 = 0 := by
  have := (textT_ext T l).len
  have e : ctxT T x = (T, x) := if_neg h0
  unfold deriveT
  rw [e]
  exact make_out' (x := x) hx (by simp) (by show (textT T l).1.length ≤ 100; omega)
theorem behind_out_c {T : List Nd} {x s : Int} {l : ByteArray} (hx : Out x) (hT : T.length ≤ 90) : (behindT T l s x).2 = 0 := by
  unfold behindT
  split
  · rfl
  · exact der_out_c hx (by assumption) hT
theorem behind_out_s {T : List Nd} {x tr : Int} {l : ByteArray} (hx : Out x) (hT : T.length ≤ 90) : (behindT T l x tr).2 = 0 := by
  unfold behindT
  split
  · rfl
  · exact der_out_s hx hT
theorem pair_out_c {T : List Nd} {x s : Int} {l1 l2 : ByteArray} (hx : Out x) (hT : T.length ≤ 80) : (pairT T l1 l2 s x).2.1 = 0 ∧ (pairT T l1 l2 s x).2.2 = 0 ∧ (pairT T l1 l2 s x).1.length ≤ T.length + 6 := by
  have := (behindT_ext T l1 s x).len
  have h2 := (behindT_ext (behindT T l1 s x).1 l2 s x).len
  exact ⟨behind_out_c hx (by omega), behind_out_c hx (by omega), by show (behindT (behindT T l1 s x).1 l2 s x).1.length ≤ _; omega⟩
theorem pair_out_s {T : List Nd} {x tr : Int} {l1 l2 : ByteArray} (hx : Out x) (hT : T.length ≤ 80) : (pairT T l1 l2 x tr).2.1 = 0 ∧ (pairT T l1 l2 x tr).2.2 = 0 ∧ (pairT T l1 l2 x tr).1.length ≤ T.length + 6 := by
  have := (behindT_ext T l1 x tr).len
  have h2 := (behindT_ext (behindT T l1 x tr).1 l2 x tr).len
  exact ⟨behind_out_s hx (by omega), behind_out_s hx (by omega), by show (behindT (behindT T l1 x tr).1 l2 x tr).1.length ≤ _; omega⟩
theorem next_out {T : List Nd} {x : Int} {m : ByteArray} (hx : Out x) (hT : T.length ≤ 90) : (nextT T x m).2 = 0 ∧ (nextT T x m).1.length ≤ T.length + 3 := by
  refine ⟨?_, (nextT_ext T x m).len⟩
  unfold nextT
  have h1 := (textT_ext T m).len
  have h2 := (makeT_ext (textT T m).1 3 [x, (textT T m).2]).len
  refine make_out' out_zero ?_ (by omega)
  rw [make_out' hx (by simp) (by omega)]
  simp
theorem mac_out {T : List Nd} {x tr : Int} {l : ByteArray} (hx : Out x) (hT : T.length ≤ 90) : (macT T l x tr).2 = 0 ∧ (macT T l x tr).1.length ≤ T.length + 4 := by
  have h1 := (deriveT_ext T x l 0).len
  have h2 := (makeT_ext (deriveT T x l 0).1 5 [(deriveT T x l 0).2, tr]).len
  refine ⟨?_, by show (makeT (deriveT T x l 0).1 5 _).1.length ≤ _; omega⟩
  unfold macT
  refine make_out' out_zero ?_ (by omega)
  rw [der_out_s hx hT]
  simp
theorem signed_out {T : List Nd} {x : Int} (hx : Out x) (hT : T.length ≤ 90) : (signedT T x).2 = 0 ∧ (signedT T x).1.length ≤ T.length + 2 := by
  have h1 := (textT_ext T lbServerProof).len
  have h2 := (makeT_ext (textT T lbServerProof).1 3 [(textT T lbServerProof).2, x]).len
  exact ⟨make_out' hx (by simp) (by omega), by show (makeT (textT T lbServerProof).1 3 _).1.length ≤ _; omega⟩
theorem shaken_out {T : List Nd} {x y : Int} (hx : Out x) (hT : T.length ≤ 80) : (shakenT T x y).2 = 0 ∧ (shakenT T x y).1.length ≤ T.length + 4 := by
  have h1 := (makeT_ext T 3 [x, y]).len
  have h2 := (deriveT_ext (makeT T 3 [x, y]).1 (makeT T 3 [x, y]).2 lbHandshake 0).len
  refine ⟨?_, by show (deriveT (makeT T 3 [x, y]).1 _ _ _).1.length ≤ _; omega⟩
  unfold shakenT
  refine der_out_s ?_ (by omega)
  rw [make_out' hx (by simp) (by omega)]
  exact out_zero
theorem main_out {T : List Nd} {x : Int} (hx : Out x) (hT : T.length ≤ 90) : (deriveT T x lbMain 0).2 = 0 ∧ (deriveT T x lbMain 0).1.length ≤ T.length + 3 := ⟨der_out_s hx hT, (deriveT_ext T x lbMain 0).len⟩
theorem resume_out {T : List Nd} {x y : Int} (hx : Out x) (hT : T.length ≤ 90) : (behindT T lbResume x y).2 = 0 ∧ (behindT T lbResume x y).1.length ≤ T.length + 3 := ⟨behind_out_s hx hT, (behindT_ext T lbResume x y).len⟩

set_option maxHeartbeats 3200000 in
set_option maxRecDepth 100000 in
theorem none_rest (w : World) (h x : Int) (hf : Fit h) (hx : x = if 0 ≤ h ∧ h ≤ 100 then 0 else h) : Calls Try.prog 6 #[.int .i64 h] w (AwakePost w) := by
  have HO : Hid (Out x) := out_int (by rw [hx]; split <;> omega)
  have HX : Hid (Fit x) := by rw [hx]; split; exact ⟨by omega, by omega⟩; exact hf
  go_enter Try.func6, Try.ntmps6
  go_wp2_with fail
  refine (new_any w).mono ?_
  rintro e w1 ⟨tb, rfl, ht1, hb1⟩
  have HF1 := Lib.hid (Frm.of_below (C := tabO) (B := w.heap.size) hb1)
  have HT1 := Lib.hid ht1
  clear ht1 hb1
  by_cases c1 : 0 ≤ h ∧ h ≤ 100
  · rw [if_pos c1] at hx
    subst hx
    obtain ⟨c1, c2⟩ := c1
    go_wp2_with fail
    have key := secret_any w1 HT1.out
    refine key.mono ?_
    clear key
    rintro e w2 p2
    obtain ⟨rfl, ht2, hf2⟩ := p2.intro (show secretT [] = ([nS], 1) from by decide)
    have HT2 := Lib.hid ht2
    have HF2 := Lib.hid (HF1.out.trans hf2)
    clear p2 ht2 hf2
    go_wp2_with fail
    have key := shakenTraffic_any 1 0 w2 HT2.out ⟨by omega, by omega⟩ HX.out
    refine key.mono ?_
    clear key
    rintro e w3 p3
    obtain ⟨⟨T3, a3, b3⟩, e3⟩ : ∃ r, pairT [nS] lbClientHs lbServerHs 1 0 = r := ⟨_, rfl⟩
    obtain ⟨rfl, ht3, hf3⟩ := p3.intro e3
    have S := pair_out_c (T := [nS]) (x := 0) (s := 1) (l1 := lbClientHs) (l2 := lbServerHs) HO.out (by decide)
    rw [e3] at S
    simp only at S
    obtain ⟨rfl, rfl, hl⟩ := S
    have HT3 := Lib.hid ht3
    have HF3 := Lib.hid (HF2.out.trans hf3)
    have L3 : Hid (T3.length ≤ 10) := by show _ ≤ _; simp at hl ⊢; omega
    clear p3 e3 ht3 hf3 hl
    go_wp2_with fail
    have key := begin_any w3 HT3.out
    refine key.mono ?_
    clear key
    rintro e w4 p4
    obtain ⟨T4, bg, e4, rfl, ht4, hf4⟩ := TabPost.of HF3.out p4
    have hl := (textT_ext T3 ByteArray.empty).len
    have hr := textT_range (T := T3) (b := ByteArray.empty) HT3.out.1.len
    have e4' : textT T3 ByteArray.empty = (T4, bg) := e4
    rw [e4'] at hl hr
    have HT4 := Lib.hid ht4
    have HF4 := Lib.hid hf4
    have HG : Hid (Fit bg) := fit_of hr
    have L4 : Hid (T4.length ≤ 12) := by show _ ≤ _; have := L3.out; simp at hl ⊢; omega
    clear p4 e4 e4' ht4 hf4 hl hr
    go_wp2_with fail
    have key := mainTraffic_any 0 bg w4 HT4.out HX.out HG.out
    refine key.mono ?_
    clear key
    rintro e w5 p5
    obtain ⟨⟨T5, a5, b5⟩, e5⟩ : ∃ r, pairT T4 lbClientApp lbServerApp 0 bg = r := ⟨_, rfl⟩
    obtain ⟨rfl, ht5, hf5⟩ := p5.intro e5
    have S := pair_out_s (T := T4) (x := 0) (tr := bg) (l1 := lbClientApp) (l2 := lbServerApp) HO.out (by have := L4.out; omega)
    rw [e5] at S
    simp only at S
    obtain ⟨rfl, rfl, hl⟩ := S
    have HT5 := Lib.hid ht5
    have HF5 := Lib.hid (HF4.out.trans hf5)
    have L5 : Hid (T5.length ≤ 20) := by show _ ≤ _; have := L4.out; simp at hl ⊢; omega
    clear p5 e5 ht5 hf5 hl
    go_wp2_with fail
    have key := next_any 0 none 0 0 [] w5 HT5.out (Rds.nil 0 _ _) HX.out
    refine key.mono ?_
    clear key
    rintro e w6 p6
    obtain ⟨T6, z6, e6, rfl, ht6, hf6⟩ := TabPost.of HF5.out p6
    have S := next_out (T := T5) (x := 0) (m := strOfNums []) HO.out (by have := L5.out; omega)
    rw [e6] at S
    simp only at S
    obtain ⟨rfl, hl⟩ := S
    have HT6 := Lib.hid ht6
    have HF6 := Lib.hid hf6
    have L6 : Hid (T6.length ≤ 24) := by show _ ≤ _; have := L5.out; simp at hl ⊢; omega
    clear p6 e6 ht6 hf6 hl
    go_wp2_with fail
    have key := main_any 0 w6 HT6.out HX.out
    refine key.mono ?_
    clear key
    rintro e w7 p7
    obtain ⟨T7, z7, e7, rfl, ht7, hf7⟩ := TabPost.of HF6.out p7
    have S := main_out (T := T6) (x := 0) HO.out (by have := L6.out; omega)
    rw [e7] at S
    simp only at S
    obtain ⟨rfl, hl⟩ := S
    have HT7 := Lib.hid ht7
    have HF7 := Lib.hid hf7
    have L7 : Hid (T7.length ≤ 28) := by show _ ≤ _; have := L6.out; simp at hl ⊢; omega
    clear p7 e7 ht7 hf7 hl
    go_wp2_with fail
    have key := finished_any 0 0 w7 HT7.out HX.out HX.out (by have := L7.out; omega)
    refine key.mono ?_
    clear key
    rintro e w8 p8
    obtain ⟨T8, z8, e8, rfl, ht8, hf8⟩ := TabPost.of HF7.out p8
    have S := mac_out (T := T7) (x := 0) (tr := 0) (l := lbFinished) HO.out (by have := L7.out; omega)
    rw [e8] at S
    simp only at S
    obtain ⟨rfl, hl⟩ := S
    have HT8 := Lib.hid ht8
    have HF8 := Lib.hid hf8
    have L8 : Hid (T8.length ≤ 32) := by show _ ≤ _; have := L7.out; simp at hl ⊢; omega
    clear p8 e8 ht8 hf8 hl
    go_wp2_with fail
    have key := signed_any 0 w8 HT8.out HX.out
    refine key.mono ?_
    clear key
    rintro e w9 p9
    obtain ⟨T9, z9, e9, rfl, ht9, hf9⟩ := TabPost.of HF8.out p9
    have S := signed_out (T := T8) (x := 0) HO.out (by have := L8.out; omega)
    rw [e9] at S
    simp only at S
    obtain ⟨rfl, hl⟩ := S
    have HT9 := Lib.hid ht9
    have HF9 := Lib.hid hf9
    have L9 : Hid (T9.length ≤ 36) := by show _ ≤ _; have := L8.out; simp at hl ⊢; omega
    clear p9 e9 ht9 hf9 hl
    go_wp2_with fail
    have key := resume_any 0 0 w9 HT9.out HX.out HX.out
    refine key.mono ?_
    clear key
    rintro e w10 p10
    obtain ⟨T10, z10, e10, rfl, ht10, hf10⟩ := TabPost.of HF9.out p10
    have S := resume_out (T := T9) (x := 0) (y := 0) HO.out (by have := L9.out; omega)
    rw [e10] at S
    simp only at S
    obtain ⟨rfl, hl⟩ := S
    have HT10 := Lib.hid ht10
    have HF10 := Lib.hid hf10
    have L10 : Hid (T10.length ≤ 40) := by show _ ≤ _; have := L9.out; simp at hl ⊢; omega
    clear p10 e10 ht10 hf10 hl
    go_wp2_with fail
    have key := shaken_any 0 0 w10 HT10.out HX.out HX.out
    refine key.mono ?_
    clear key
    rintro e w11 p11
    obtain ⟨T11, z11, e11, rfl, ht11, hf11⟩ := TabPost.of HF10.out p11
    have S := shaken_out (T := T10) (x := 0) (y := 0) HO.out (by have := L10.out; omega)
    rw [e11] at S
    simp only at S
    obtain ⟨rfl, hl⟩ := S
    have HT11 := Lib.hid ht11
    have HF11 := Lib.hid hf11
    have L11 : Hid (T11.length ≤ 46) := by show _ ≤ _; have := L10.out; simp at hl ⊢; omega
    clear p11 e11 ht11 hf11 hl
    go_wp2_with fail
    refine (awake15_any w11).mono ?_
    rintro e w12 ⟨rfl, hb12⟩
    have HB12 := Lib.hid (below_next (HF11.out.below (Nat.le_refl _)) (HF11.out.below (Nat.le_refl _)).size hb12)
    clear hb12
    go_wp2_with fail
    go_ret
    exact ⟨rfl, HB12.out⟩
  · rw [if_neg c1] at hx
    obtain rfl : h = x := hx.symm
    by_cases c2 : 0 ≤ h
    · have c3 : ¬ h ≤ 100 := fun k => c1 ⟨c2, k⟩
      clear c1
      go_wp2_with fail
      have key := secret_any w1 HT1.out
      refine key.mono ?_
      clear key
      rintro e w2 p2
      obtain ⟨rfl, ht2, hf2⟩ := p2.intro (show secretT [] = ([nS], 1) from by decide)
      have HT2 := Lib.hid ht2
      have HF2 := Lib.hid (HF1.out.trans hf2)
      clear p2 ht2 hf2
      go_wp2_with fail
      have key := shakenTraffic_any 1 h w2 HT2.out ⟨by omega, by omega⟩ HX.out
      refine key.mono ?_
      clear key
      rintro e w3 p3
      obtain ⟨⟨T3, a3, b3⟩, e3⟩ : ∃ r, pairT [nS] lbClientHs lbServerHs 1 h = r := ⟨_, rfl⟩
      obtain ⟨rfl, ht3, hf3⟩ := p3.intro e3
      have S := pair_out_c (T := [nS]) (x := h) (s := 1) (l1 := lbClientHs) (l2 := lbServerHs) HO.out (by decide)
      rw [e3] at S
      simp only at S
      obtain ⟨rfl, rfl, hl⟩ := S
      have HT3 := Lib.hid ht3
      have HF3 := Lib.hid (HF2.out.trans hf3)
      have L3 : Hid (T3.length ≤ 10) := by show _ ≤ _; simp at hl ⊢; omega
      clear p3 e3 ht3 hf3 hl
      go_wp2_with fail
      have key := begin_any w3 HT3.out
      refine key.mono ?_
      clear key
      rintro e w4 p4
      obtain ⟨T4, bg, e4, rfl, ht4, hf4⟩ := TabPost.of HF3.out p4
      have hl := (textT_ext T3 ByteArray.empty).len
      have hr := textT_range (T := T3) (b := ByteArray.empty) HT3.out.1.len
      have e4' : textT T3 ByteArray.empty = (T4, bg) := e4
      rw [e4'] at hl hr
      have HT4 := Lib.hid ht4
      have HF4 := Lib.hid hf4
      have HG : Hid (Fit bg) := fit_of hr
      have L4 : Hid (T4.length ≤ 12) := by show _ ≤ _; have := L3.out; simp at hl ⊢; omega
      clear p4 e4 e4' ht4 hf4 hl hr
      go_wp2_with fail
      have key := mainTraffic_any h bg w4 HT4.out HX.out HG.out
      refine key.mono ?_
      clear key
      rintro e w5 p5
      obtain ⟨⟨T5, a5, b5⟩, e5⟩ : ∃ r, pairT T4 lbClientApp lbServerApp h bg = r := ⟨_, rfl⟩
      obtain ⟨rfl, ht5, hf5⟩ := p5.intro e5
      have S := pair_out_s (T := T4) (x := h) (tr := bg) (l1 := lbClientApp) (l2 := lbServerApp) HO.out (by have := L4.out; omega)
      rw [e5] at S
      simp only at S
      obtain ⟨rfl, rfl, hl⟩ := S
      have HT5 := Lib.hid ht5
      have HF5 := Lib.hid (HF4.out.trans hf5)
      have L5 : Hid (T5.length ≤ 20) := by show _ ≤ _; have := L4.out; simp at hl ⊢; omega
      clear p5 e5 ht5 hf5 hl
      go_wp2_with fail
      have key := next_any h none 0 0 [] w5 HT5.out (Rds.nil 0 _ _) HX.out
      refine key.mono ?_
      clear key
      rintro e w6 p6
      obtain ⟨T6, z6, e6, rfl, ht6, hf6⟩ := TabPost.of HF5.out p6
      have S := next_out (T := T5) (x := h) (m := strOfNums []) HO.out (by have := L5.out; omega)
      rw [e6] at S
      simp only at S
      obtain ⟨rfl, hl⟩ := S
      have HT6 := Lib.hid ht6
      have HF6 := Lib.hid hf6
      have L6 : Hid (T6.length ≤ 24) := by show _ ≤ _; have := L5.out; simp at hl ⊢; omega
      clear p6 e6 ht6 hf6 hl
      go_wp2_with fail
      have key := main_any h w6 HT6.out HX.out
      refine key.mono ?_
      clear key
      rintro e w7 p7
      obtain ⟨T7, z7, e7, rfl, ht7, hf7⟩ := TabPost.of HF6.out p7
      have S := main_out (T := T6) (x := h) HO.out (by have := L6.out; omega)
      rw [e7] at S
      simp only at S
      obtain ⟨rfl, hl⟩ := S
      have HT7 := Lib.hid ht7
      have HF7 := Lib.hid hf7
      have L7 : Hid (T7.length ≤ 28) := by show _ ≤ _; have := L6.out; simp at hl ⊢; omega
      clear p7 e7 ht7 hf7 hl
      go_wp2_with fail
      have key := finished_any h h w7 HT7.out HX.out HX.out (by have := L7.out; omega)
      refine key.mono ?_
      clear key
      rintro e w8 p8
      obtain ⟨T8, z8, e8, rfl, ht8, hf8⟩ := TabPost.of HF7.out p8
      have S := mac_out (T := T7) (x := h) (tr := h) (l := lbFinished) HO.out (by have := L7.out; omega)
      rw [e8] at S
      simp only at S
      obtain ⟨rfl, hl⟩ := S
      have HT8 := Lib.hid ht8
      have HF8 := Lib.hid hf8
      have L8 : Hid (T8.length ≤ 32) := by show _ ≤ _; have := L7.out; simp at hl ⊢; omega
      clear p8 e8 ht8 hf8 hl
      go_wp2_with fail
      have key := signed_any h w8 HT8.out HX.out
      refine key.mono ?_
      clear key
      rintro e w9 p9
      obtain ⟨T9, z9, e9, rfl, ht9, hf9⟩ := TabPost.of HF8.out p9
      have S := signed_out (T := T8) (x := h) HO.out (by have := L8.out; omega)
      rw [e9] at S
      simp only at S
      obtain ⟨rfl, hl⟩ := S
      have HT9 := Lib.hid ht9
      have HF9 := Lib.hid hf9
      have L9 : Hid (T9.length ≤ 36) := by show _ ≤ _; have := L8.out; simp at hl ⊢; omega
      clear p9 e9 ht9 hf9 hl
      go_wp2_with fail
      have key := resume_any h h w9 HT9.out HX.out HX.out
      refine key.mono ?_
      clear key
      rintro e w10 p10
      obtain ⟨T10, z10, e10, rfl, ht10, hf10⟩ := TabPost.of HF9.out p10
      have S := resume_out (T := T9) (x := h) (y := h) HO.out (by have := L9.out; omega)
      rw [e10] at S
      simp only at S
      obtain ⟨rfl, hl⟩ := S
      have HT10 := Lib.hid ht10
      have HF10 := Lib.hid hf10
      have L10 : Hid (T10.length ≤ 40) := by show _ ≤ _; have := L9.out; simp at hl ⊢; omega
      clear p10 e10 ht10 hf10 hl
      go_wp2_with fail
      have key := shaken_any h h w10 HT10.out HX.out HX.out
      refine key.mono ?_
      clear key
      rintro e w11 p11
      obtain ⟨T11, z11, e11, rfl, ht11, hf11⟩ := TabPost.of HF10.out p11
      have S := shaken_out (T := T10) (x := h) (y := h) HO.out (by have := L10.out; omega)
      rw [e11] at S
      simp only at S
      obtain ⟨rfl, hl⟩ := S
      have HT11 := Lib.hid ht11
      have HF11 := Lib.hid hf11
      have L11 : Hid (T11.length ≤ 46) := by show _ ≤ _; have := L10.out; simp at hl ⊢; omega
      clear p11 e11 ht11 hf11 hl
      go_wp2_with fail
      refine (awake15_any w11).mono ?_
      rintro e w12 ⟨rfl, hb12⟩
      have HB12 := Lib.hid (below_next (HF11.out.below (Nat.le_refl _)) (HF11.out.below (Nat.le_refl _)).size hb12)
      clear hb12
      go_wp2_with fail
      go_ret
      exact ⟨rfl, HB12.out⟩
    · clear c1
      go_wp2_with fail
      have key := secret_any w1 HT1.out
      refine key.mono ?_
      clear key
      rintro e w2 p2
      obtain ⟨rfl, ht2, hf2⟩ := p2.intro (show secretT [] = ([nS], 1) from by decide)
      have HT2 := Lib.hid ht2
      have HF2 := Lib.hid (HF1.out.trans hf2)
      clear p2 ht2 hf2
      go_wp2_with fail
      have key := shakenTraffic_any 1 h w2 HT2.out ⟨by omega, by omega⟩ HX.out
      refine key.mono ?_
      clear key
      rintro e w3 p3
      obtain ⟨⟨T3, a3, b3⟩, e3⟩ : ∃ r, pairT [nS] lbClientHs lbServerHs 1 h = r := ⟨_, rfl⟩
      obtain ⟨rfl, ht3, hf3⟩ := p3.intro e3
      have S := pair_out_c (T := [nS]) (x := h) (s := 1) (l1 := lbClientHs) (l2 := lbServerHs) HO.out (by decide)
      rw [e3] at S
      simp only at S
      obtain ⟨rfl, rfl, hl⟩ := S
      have HT3 := Lib.hid ht3
      have HF3 := Lib.hid (HF2.out.trans hf3)
      have L3 : Hid (T3.length ≤ 10) := by show _ ≤ _; simp at hl ⊢; omega
      clear p3 e3 ht3 hf3 hl
      go_wp2_with fail
      have key := begin_any w3 HT3.out
      refine key.mono ?_
      clear key
      rintro e w4 p4
      obtain ⟨T4, bg, e4, rfl, ht4, hf4⟩ := TabPost.of HF3.out p4
      have hl := (textT_ext T3 ByteArray.empty).len
      have hr := textT_range (T := T3) (b := ByteArray.empty) HT3.out.1.len
      have e4' : textT T3 ByteArray.empty = (T4, bg) := e4
      rw [e4'] at hl hr
      have HT4 := Lib.hid ht4
      have HF4 := Lib.hid hf4
      have HG : Hid (Fit bg) := fit_of hr
      have L4 : Hid (T4.length ≤ 12) := by show _ ≤ _; have := L3.out; simp at hl ⊢; omega
      clear p4 e4 e4' ht4 hf4 hl hr
      go_wp2_with fail
      have key := mainTraffic_any h bg w4 HT4.out HX.out HG.out
      refine key.mono ?_
      clear key
      rintro e w5 p5
      obtain ⟨⟨T5, a5, b5⟩, e5⟩ : ∃ r, pairT T4 lbClientApp lbServerApp h bg = r := ⟨_, rfl⟩
      obtain ⟨rfl, ht5, hf5⟩ := p5.intro e5
      have S := pair_out_s (T := T4) (x := h) (tr := bg) (l1 := lbClientApp) (l2 := lbServerApp) HO.out (by have := L4.out; omega)
      rw [e5] at S
      simp only at S
      obtain ⟨rfl, rfl, hl⟩ := S
      have HT5 := Lib.hid ht5
      have HF5 := Lib.hid (HF4.out.trans hf5)
      have L5 : Hid (T5.length ≤ 20) := by show _ ≤ _; have := L4.out; simp at hl ⊢; omega
      clear p5 e5 ht5 hf5 hl
      go_wp2_with fail
      have key := next_any h none 0 0 [] w5 HT5.out (Rds.nil 0 _ _) HX.out
      refine key.mono ?_
      clear key
      rintro e w6 p6
      obtain ⟨T6, z6, e6, rfl, ht6, hf6⟩ := TabPost.of HF5.out p6
      have S := next_out (T := T5) (x := h) (m := strOfNums []) HO.out (by have := L5.out; omega)
      rw [e6] at S
      simp only at S
      obtain ⟨rfl, hl⟩ := S
      have HT6 := Lib.hid ht6
      have HF6 := Lib.hid hf6
      have L6 : Hid (T6.length ≤ 24) := by show _ ≤ _; have := L5.out; simp at hl ⊢; omega
      clear p6 e6 ht6 hf6 hl
      go_wp2_with fail
      have key := main_any h w6 HT6.out HX.out
      refine key.mono ?_
      clear key
      rintro e w7 p7
      obtain ⟨T7, z7, e7, rfl, ht7, hf7⟩ := TabPost.of HF6.out p7
      have S := main_out (T := T6) (x := h) HO.out (by have := L6.out; omega)
      rw [e7] at S
      simp only at S
      obtain ⟨rfl, hl⟩ := S
      have HT7 := Lib.hid ht7
      have HF7 := Lib.hid hf7
      have L7 : Hid (T7.length ≤ 28) := by show _ ≤ _; have := L6.out; simp at hl ⊢; omega
      clear p7 e7 ht7 hf7 hl
      go_wp2_with fail
      have key := finished_any h h w7 HT7.out HX.out HX.out (by have := L7.out; omega)
      refine key.mono ?_
      clear key
      rintro e w8 p8
      obtain ⟨T8, z8, e8, rfl, ht8, hf8⟩ := TabPost.of HF7.out p8
      have S := mac_out (T := T7) (x := h) (tr := h) (l := lbFinished) HO.out (by have := L7.out; omega)
      rw [e8] at S
      simp only at S
      obtain ⟨rfl, hl⟩ := S
      have HT8 := Lib.hid ht8
      have HF8 := Lib.hid hf8
      have L8 : Hid (T8.length ≤ 32) := by show _ ≤ _; have := L7.out; simp at hl ⊢; omega
      clear p8 e8 ht8 hf8 hl
      go_wp2_with fail
      have key := signed_any h w8 HT8.out HX.out
      refine key.mono ?_
      clear key
      rintro e w9 p9
      obtain ⟨T9, z9, e9, rfl, ht9, hf9⟩ := TabPost.of HF8.out p9
      have S := signed_out (T := T8) (x := h) HO.out (by have := L8.out; omega)
      rw [e9] at S
      simp only at S
      obtain ⟨rfl, hl⟩ := S
      have HT9 := Lib.hid ht9
      have HF9 := Lib.hid hf9
      have L9 : Hid (T9.length ≤ 36) := by show _ ≤ _; have := L8.out; simp at hl ⊢; omega
      clear p9 e9 ht9 hf9 hl
      go_wp2_with fail
      have key := resume_any h h w9 HT9.out HX.out HX.out
      refine key.mono ?_
      clear key
      rintro e w10 p10
      obtain ⟨T10, z10, e10, rfl, ht10, hf10⟩ := TabPost.of HF9.out p10
      have S := resume_out (T := T9) (x := h) (y := h) HO.out (by have := L9.out; omega)
      rw [e10] at S
      simp only at S
      obtain ⟨rfl, hl⟩ := S
      have HT10 := Lib.hid ht10
      have HF10 := Lib.hid hf10
      have L10 : Hid (T10.length ≤ 40) := by show _ ≤ _; have := L9.out; simp at hl ⊢; omega
      clear p10 e10 ht10 hf10 hl
      go_wp2_with fail
      have key := shaken_any h h w10 HT10.out HX.out HX.out
      refine key.mono ?_
      clear key
      rintro e w11 p11
      obtain ⟨T11, z11, e11, rfl, ht11, hf11⟩ := TabPost.of HF10.out p11
      have S := shaken_out (T := T10) (x := h) (y := h) HO.out (by have := L10.out; omega)
      rw [e11] at S
      simp only at S
      obtain ⟨rfl, hl⟩ := S
      have HT11 := Lib.hid ht11
      have HF11 := Lib.hid hf11
      have L11 : Hid (T11.length ≤ 46) := by show _ ≤ _; have := L10.out; simp at hl ⊢; omega
      clear p11 e11 ht11 hf11 hl
      go_wp2_with fail
      refine (awake15_any w11).mono ?_
      rintro e w12 ⟨rfl, hb12⟩
      have HB12 := Lib.hid (below_next (HF11.out.below (Nat.le_refl _)) (HF11.out.below (Nat.le_refl _)).size hb12)
      clear hb12
      go_wp2_with fail
      go_ret
      exact ⟨rfl, HB12.out⟩
theorem none_row (w : World) (h : Int) (wh : (Lit.int .i64 h).wf = true) : Calls Try.prog 6 #[.int .i64 h] w fun e w' => e = .returned (.bool true) ∧ Below w.heap.size w w' := by
  have := bounds_i64 wh
  exact none_rest w h _ ⟨by omega, by omega⟩ rfl
end Go.Proofs.Ytbcicfgffjgpdaa
