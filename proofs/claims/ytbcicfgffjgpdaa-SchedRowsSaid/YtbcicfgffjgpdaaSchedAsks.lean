/- The walk of SchedAsks. No condition. -/
import Derived.Test.YtbcicfgffjgpdaaSchedUnlike
set_option linter.unusedVariables false
set_option linter.unusedSimpArgs false
namespace Go.Proofs.Ytbcicfgffjgpdaa
open Go Go.RowKit Go.WideMaps

theorem wrap_in' {x : Int} (h : -9223372036854775808 ≤ x ∧ x ≤ 9223372036854775807) : wrap64 x = x := (IntWalk.i64_left x).symm.trans (IntWalk.i64_in x h)
/-- No mac is new. -/
def NoMac (T T' : List Nd) : Prop := ∀ x nd, getT T' x = some nd → nd.kind = 5 → getT T x = some nd
theorem NoMac.trans {T T' T'' : List Nd} (h : NoMac T T') (k : NoMac T' T'') : NoMac T T'' := fun x nd e q => h x nd (k x nd e q) q
theorem NoMac.refl (T : List Nd) : NoMac T T := fun x nd e q => e
theorem addT_noMac {T : List Nd} {n : Nd} (h : n.kind ≠ 5) : NoMac T (addT T n).1 := by
  unfold addT
  split
  · exact NoMac.refl T
  · split
    · exact NoMac.refl T
    · intro x nd e q
      show getT T x = some nd
      have e' : getT (T ++ [n]) x = some nd := e
      have hr := getT_range e'
      unfold getT at e' ⊢
      rw [if_pos hr.1] at e' ⊢
      by_cases hl : (x - 1).toNat < T.length
      · rwa [List.getElem?_append_left hl] at e'
      · rw [List.getElem?_append_right (by omega)] at e'
        have := List.mem_of_getElem? e'
        simp at this
        subst this
        exact absurd q h
theorem textT_noMac (T : List Nd) (b : ByteArray) : NoMac T (textT T b).1 := by
  unfold textT
  split
  · exact addT_noMac (by show (1 : Int) ≠ 5; decide)
  · exact NoMac.refl T
theorem makeT_noMac {T : List Nd} {k : Int} {p : List Int} (h : k ≠ 5) : NoMac T (makeT T k p).1 := by
  unfold makeT
  split
  · exact NoMac.refl T
  · exact addT_noMac h
theorem deriveT_noMac (T : List Nd) (s : Int) (l : ByteArray) (c : Int) : NoMac T (deriveT T s l c).1 := by
  unfold deriveT
  have h1 : NoMac T (ctxT T c).1 := by
    unfold ctxT
    split
    · exact textT_noMac _ _
    · exact NoMac.refl _
  exact (h1.trans (textT_noMac _ _)).trans (makeT_noMac (by decide))
theorem ask_none {T T0 : List Nd} {l : ByteArray} {k tr m : Int} (h0 : NoMac T0 T) (hm : ¬ In T0 m) : (askT T l k tr m).2 = false := by
  show macedT (deriveT T k l 0).1 (deriveT T k l 0).2 tr m = false
  unfold macedT
  cases e : getT (deriveT T k l 0).1 m with
  | none => rfl
  | some nd =>
    show decide _ = false
    rw [decide_eq_false]
    rintro ⟨q, _⟩
    exact hm ⟨nd, h0 m nd (deriveT_noMac T k l 0 m nd e q) q⟩
theorem fin_ne_bind : lbFinished ≠ lbBinder := by decide
theorem bind_ne_fin : lbBinder ≠ lbFinished := by decide
/-- A mac of a derived key. -/
def FinAt (T : List Nd) (x : Int) (l : ByteArray) (k tr : Int) : Prop := ∃ d, Der0 T d k l ∧ getT T x = some ⟨5, ByteArray.empty, [d, tr]⟩
theorem FinAt.ext {n : Nat} {T T' : List Nd} {x k tr : Int} {l : ByteArray} (h : FinAt T x l k tr) (e : Ext n T T') : FinAt T' x l k tr := by
  obtain ⟨d, h1, h2⟩ := h
  exact ⟨d, h1.ext e, e.get h2⟩
theorem FinAt.in_ {T : List Nd} {x k tr : Int} {l : ByteArray} (h : FinAt T x l k tr) : In T x := by
  obtain ⟨d, h1, h2⟩ := h
  exact ⟨_, h2⟩
theorem fin_spec {T : List Nd} {k tr : Int} {l : ByteArray} (hw : WfT T) (hl : l.size ≤ 2048) (hT : T.length < 50000) (hk : In T k) (hc : In T tr) : FinAt (macT T l k tr).1 (macT T l k tr).2 l k tr ∧ Ext 4 T (macT T l k tr).1 := by
  obtain ⟨d, h1, h2, h3⟩ := mac_spec hw hl hT hk hc
  exact ⟨⟨d, h1, h2⟩, h3⟩
theorem ask_spec {T : List Nd} {l l' : ByteArray} {k k' tr tr' m : Int} (hw : WfT T) (hl : l.size ≤ 2048) (hT : T.length < 50000) (hk : In T k) (hm : FinAt T m l' k' tr') :
    (askT T l k tr m).2 = decide (l = l' ∧ k = k' ∧ tr = tr') ∧ Ext 3 T (askT T l k tr m).1 := by
  obtain ⟨d, x⟩ := der_zero (l := l) hw hl (by omega) hk
  obtain ⟨d', h1, h2⟩ := hm.ext x
  refine ⟨?_, x⟩
  show macedT (deriveT T k l 0).1 (deriveT T k l 0).2 tr m = _
  rw [maced_at h2]
  by_cases h : l = l' ∧ k = k' ∧ tr = tr'
  · obtain ⟨rfl, rfl, rfl⟩ := h
    have e : d' = (deriveT T k l 0).2 := h1.uniq (deriveT_wf hw k l 0) d
    rw [decide_eq_true (show l = l ∧ k = k ∧ tr = tr from ⟨rfl, rfl, rfl⟩), decide_eq_true (show d' = (deriveT T k l 0).2 ∧ tr = tr from ⟨e, rfl⟩)]
  · rw [decide_eq_false h, decide_eq_false]
    rintro ⟨rfl, rfl⟩
    have := h1.inj d
    exact h ⟨this.2.symm, this.1.symm, rfl⟩
theorem next_ne {T : List Nd} (hw : WfT T) {x tr : Int} {m : ByteArray} (h : NextAt T x tr m) : x ≠ tr := by
  obtain ⟨row, tx, h1, h2, h3⟩ := h
  have a := (hw.get h1).range row (by simp)
  have b := (hw.get h2).range tr (by simp)
  have c := getT_range h1
  have d := getT_range h2
  omega

set_option maxHeartbeats 6400000 in
set_option maxRecDepth 100000 in
theorem asks_walk (w : World) (A0 : Option Addr) (n0 c0 : Nat) (L : List (List Int)) (h0 : RdRows w.heap.size w A0 n0 L) (guess : Int) (g0 : 0 ≤ guess) (g1 : guess ≤ 255) (other : Bool) :
    Calls Try.prog 5 #[.slice A0 n0 c0, .int .u8 guess, .bool other] w (AwakePost w) := by
  have H0 := Lib.hid h0
  clear h0
  go_enter Try.func5, Try.ntmps5
  by_cases k0 : 10 < n0
  · go_wp2_with fail
    go_ret
    exact ⟨rfl, Below.refl _ _⟩
  go_wp2_with fail
  refine (new_any w).mono ?_
  rintro e w1 ⟨tb, rfl, ht1, hb1⟩
  have key := begin_any w1 ht1
  have HF1 := Lib.hid (Frm.of_below (C := tabO) (B := w.heap.size) hb1)
  clear ht1 hb1
  go_wp2_with fail
  refine key.mono ?_
  clear key
  rintro e w2 p2
  obtain ⟨rfl, ht2, hf2⟩ := p2.intro begin_eq
  have HF2 := Lib.hid (HF1.out.trans hf2)
  have HT2 := Lib.hid ht2
  have HB2 := Lib.hid (HF2.out.below (Nat.le_refl _))
  clear p2 ht2 hf2 HF1
  go_wp2_with fail
  go_loopw [8, 9] (fun x i wr => ∃ (k : Nat) (T : List Nd) (tr : Int), k ≤ n0 ∧ i = .int .i64 k ∧ x = .int .i64 tr ∧ IsTab w.heap.size wr tb T ∧ TrAt T tr (msgs L k) ∧ T.length ≤ 1 + 3 * k ∧ Below w.heap.size w wr) (fun _ i _ => n0 - (intOf i).toNat)
  case atStart => exact ⟨0, [nT ByteArray.empty], 1, Nat.zero_le _, rfl, rfl, HT2.out, rfl, by simp, HB2.out⟩
  case round =>
    obtain ⟨k, T, tr, hk, rfl, rfl, ht, hx, hTl, hb⟩ := hrel
    have HX := Lib.hid hx
    have HT := Lib.hid ht
    have HB := Lib.hid hb
    clear hx ht hb
    by_cases hlt : k < n0
    · obtain ⟨xs, hxs⟩ : ∃ xs, L[k]? = some xs := ⟨_, List.getElem?_eq_getElem (by have := H0.out.1; omega)⟩
      obtain ⟨b, o, A', c', rfl, x0, hr⟩ := (H0.out.below HB.out).at_ hxs
      have HXS := Lib.hid hxs
      have hi0 : (0 : Int) ≤ (k : Int) := by omega
      have hi1 : (k : Int) < (n0 : Int) := by omega
      clear hxs
      by_cases hlong : 200 < xs.length
      · clear hr
        go_wp2_with fail
        go_ret
        exact ⟨rfl, HB.out⟩
      have hin := HX.out.in_
      have hrg := hin.range
      have key := next_any tr A' _ c' xs wr HT.out hr ⟨by omega, by omega⟩
      have S := next_spec (T := T) (tr := tr) (m := strOfNums xs) HT.out.1 (by rw [strOfNums_size]; omega) (by omega) hin
      have E := nextT_ext T tr (strOfNums xs)
      clear hr hin hrg
      go_wp2_with fail
      refine key.mono ?_
      clear key
      rintro e w4 p4
      obtain ⟨T4, h4, e4, rfl, ht4, hf4⟩ := TabPost.of (Frm.refl _ _ _) p4
      rw [e4] at S E
      simp only at S E
      have HT4 := Lib.hid ht4
      have HX4 : Hid (TrAt T4 h4 (msgs L (k + 1))) := by
        show TrAt _ _ _
        rw [msgs_succ HXS.out]
        exact ⟨tr, HX.out.ext E, S⟩
      have HE := E.len
      have HB4 := Lib.hid (HB.out.trans (hf4.below HB.out.size))
      clear p4 e4 ht4 hf4 S E x0
      go_wp2_with fail
      go_roundw
      case rel => exact ⟨k + 1, T4, h4, by omega, by go_num, rfl, HT4.out, HX4.out, by omega, HB4.out⟩
      case measure => simp [intOf]; omega
    · obtain rfl : k = n0 := by omega
      have hTl' : T.length ≤ 31 := by omega
      have key := secret_any wr HT.out
      have E1 := secret_new (T := T) (by omega)
      have HF := Lib.hid (Frm.of_below (C := tabO) (B := w.heap.size) HB.out)
      go_wp2_with fail
      refine key.mono ?_
      clear key
      rintro e w4 p4
      obtain ⟨rfl, ht4, hf4⟩ := p4.intro E1
      obtain ⟨T4, hT4⟩ : ∃ T4, T4 = T ++ [⟨2, ByteArray.empty, []⟩] := ⟨_, rfl⟩
      rw [← hT4] at ht4
      have X4 : Ext 1 T T4 := ⟨[⟨2, ByteArray.empty, []⟩], hT4, by simp⟩
      have L4 : T4.length = T.length + 1 := by rw [hT4]; simp
      have GA : Hid (getT T4 ((T.length : Int) + 1) = some ⟨2, ByteArray.empty, []⟩) := by show _ = _; rw [getT_nat, hT4]; simp
      have key := secret_any w4 ht4
      have E5 := secret_new (T := T4) (by omega)
      have HF4 := Lib.hid (HF.out.trans hf4)
      clear p4 ht4 hf4 E1
      go_wp2_with fail
      refine key.mono ?_
      clear key
      rintro e w5 p5
      obtain ⟨rfl, ht5, hf5⟩ := p5.intro E5
      obtain ⟨T5, hT5⟩ : ∃ T5, T5 = T4 ++ [⟨2, ByteArray.empty, []⟩] := ⟨_, rfl⟩
      rw [← hT5] at ht5
      have X5 : Ext 1 T4 T5 := ⟨[⟨2, ByteArray.empty, []⟩], hT5, by simp⟩
      have L5 : T5.length = T.length + 2 := by rw [hT5]; simp; omega
      have GB : Hid (getT T5 ((T4.length : Int) + 1) = some ⟨2, ByteArray.empty, []⟩) := by show _ = _; rw [getT_nat, hT5]; simp
      have IA : Hid (In T5 ((T.length : Int) + 1)) := ⟨_, X5.get GA.out⟩
      have IB : Hid (In T5 ((T4.length : Int) + 1)) := ⟨_, GB.out⟩
      obtain ⟨a, ha⟩ : ∃ a : Int, a = (T.length : Int) + 1 := ⟨_, rfl⟩
      obtain ⟨b, hbb⟩ : ∃ b : Int, b = (T4.length : Int) + 1 := ⟨_, rfl⟩
      rw [← ha] at IA ⊢
      rw [← hbb] at IB ⊢
      have HAB : Hid (¬ a = b) := by show ¬ _; omega
      have HXT : Hid (TrAt T5 tr (msgs L k)) := (HX.out.ext X4).ext X5
      have IX := Lib.hid HXT.out.in_
      have HT5 := Lib.hid ht5
      have HF5 := Lib.hid (HF4.out.trans hf5)
      have FA : Hid (Fit a) := ⟨by omega, by omega⟩
      have FB : Hid (Fit b) := ⟨by omega, by omega⟩
      have rx := IX.out.range
      have FX : Hid (Fit tr) := ⟨by omega, by omega⟩
      have hL5 : T5.length ≤ 33 := by omega
      have key := size_any w5 HT5.out
      clear p5 ht5 hf5 E5 hT4 hT5 X4 X5 L4 GA GB ha hbb rx
      go_wp2_with fail
      refine key.mono ?_
      clear key
      rintro e w6 ⟨rfl, rfl⟩
      obtain ⟨n, hn⟩ : ∃ n : Int, n = (T5.length : Int) + 1 + guess % 20 := ⟨_, rfl⟩
      have q0 := Int.emod_nonneg guess (show (20 : Int) ≠ 0 by decide)
      have q1 := Int.emod_lt_of_pos guess (show (0 : Int) < 20 by decide)
      have NI : Hid (¬ In T5 n) := out_of (by omega)
      have FN : Hid (Fit n) := ⟨by omega, by omega⟩
      have w2' : Hid (wrap64 (wrap64 ((T5.length : Int) + 1) + guess % 20) = n) := by show _ = _; rw [hn, wrap_in' (x := (T5.length : Int) + 1) (by omega)]; exact wrap_in' (by omega)
      have HL5 := Lib.hid hL5
      clear hn q0 q1 L5 hL5
      go_wp2_with fail
      rw [w2'.out]
      have LT5 : Hid (T5.length ≤ 33) := HL5.out
      have NM5 := Lib.hid (NoMac.refl T5)
      clear w2'
      have key := finishes_any a tr n w5 HT5.out FA.out FX.out FN.out
      refine key.mono ?_
      clear key
      rintro e w6 p6
      obtain ⟨⟨T6, b6⟩, e6⟩ : ∃ r, askT T5 lbFinished a tr n = r := ⟨_, rfl⟩
      obtain ⟨rfl, ht6, hf6⟩ := p6.intro e6
      have S := ask_none (T := T5) (T0 := T5) (l := lbFinished) (k := a) (tr := tr) (m := n) NM5.out NI.out
      have X : Ext 3 T5 T6 := by have := deriveT_ext T5 a lbFinished 0; have e' := congrArg Prod.fst e6; have e'' : (deriveT T5 a lbFinished 0).1 = T6 := e'; rw [e''] at this; exact this
      have NM6 : Hid (NoMac T5 T6) := by have := deriveT_noMac T5 a lbFinished 0; have e' := congrArg Prod.fst e6; have e'' : (deriveT T5 a lbFinished 0).1 = T6 := e'; rw [e''] at this; exact NM5.out.trans this
      rw [e6] at S
      simp only at S
      subst S
      have HT6 := Lib.hid ht6
      have HF6 := Lib.hid (HF5.out.trans hf6)
      have LT6 : Hid (T6.length ≤ 37) := by show _ ≤ _; have := X.len; have := LT5.out; omega
      replace IA := Lib.hid (IA.out.ext X)
      replace IB := Lib.hid (IB.out.ext X)
      replace IX := Lib.hid (IX.out.ext X)
      replace HXT := Lib.hid (HXT.out.ext X)
      clear p6 e6 ht6 hf6 X
      go_wp2_with fail
      have key := binds_any a tr n w6 HT6.out FA.out FX.out FN.out
      refine key.mono ?_
      clear key
      rintro e w7 p7
      obtain ⟨⟨T7, b7⟩, e7⟩ : ∃ r, askT T6 lbBinder a tr n = r := ⟨_, rfl⟩
      obtain ⟨rfl, ht7, hf7⟩ := p7.intro e7
      have S := ask_none (T := T6) (T0 := T5) (l := lbBinder) (k := a) (tr := tr) (m := n) NM6.out NI.out
      have X : Ext 3 T6 T7 := by have := deriveT_ext T6 a lbBinder 0; have e' := congrArg Prod.fst e7; have e'' : (deriveT T6 a lbBinder 0).1 = T7 := e'; rw [e''] at this; exact this
      have NM7 : Hid (NoMac T5 T7) := by have := deriveT_noMac T6 a lbBinder 0; have e' := congrArg Prod.fst e7; have e'' : (deriveT T6 a lbBinder 0).1 = T7 := e'; rw [e''] at this; exact NM6.out.trans this
      rw [e7] at S
      simp only at S
      subst S
      have HT7 := Lib.hid ht7
      have HF7 := Lib.hid (HF6.out.trans hf7)
      have LT7 : Hid (T7.length ≤ 41) := by show _ ≤ _; have := X.len; have := LT6.out; omega
      replace IA := Lib.hid (IA.out.ext X)
      replace IB := Lib.hid (IB.out.ext X)
      replace IX := Lib.hid (IX.out.ext X)
      replace HXT := Lib.hid (HXT.out.ext X)
      clear p7 e7 ht7 hf7 X
      go_wp2_with fail
      have key := finished_any a tr w7 HT7.out FA.out FX.out (by have := LT7.out; omega)
      refine key.mono ?_
      clear key
      rintro e w8 p8
      have S := fin_spec (T := T7) (k := a) (tr := tr) (l := lbFinished) HT7.out.1 (by decide) (by have := LT7.out; omega) IA.out IX.out
      obtain ⟨⟨T8, f⟩, e8⟩ : ∃ r, macT T7 lbFinished a tr = r := ⟨_, rfl⟩
      obtain ⟨rfl, ht8, hf8⟩ := p8.intro e8
      rw [e8] at S
      obtain ⟨S1, X⟩ := S
      simp only at S1 X
      have Mf := Lib.hid S1
      have Ff : Hid (Fit f) := by have := S1.in_.range; have := ht8.1.len; exact ⟨by omega, by omega⟩
      have HT8 := Lib.hid ht8
      have HF8 := Lib.hid (HF7.out.trans hf8)
      have LT8 : Hid (T8.length ≤ 45) := by show _ ≤ _; have := X.len; have := LT7.out; omega
      replace IA := Lib.hid (IA.out.ext X)
      replace IB := Lib.hid (IB.out.ext X)
      replace IX := Lib.hid (IX.out.ext X)
      replace HXT := Lib.hid (HXT.out.ext X)
      clear S1 p8 e8 ht8 hf8 X
      go_wp2_with fail
      have key := binder_any a tr w8 HT8.out FA.out FX.out (by have := LT8.out; omega)
      refine key.mono ?_
      clear key
      rintro e w9 p9
      have S := fin_spec (T := T8) (k := a) (tr := tr) (l := lbBinder) HT8.out.1 (by decide) (by have := LT8.out; omega) IA.out IX.out
      obtain ⟨⟨T9, g⟩, e9⟩ : ∃ r, macT T8 lbBinder a tr = r := ⟨_, rfl⟩
      obtain ⟨rfl, ht9, hf9⟩ := p9.intro e9
      rw [e9] at S
      obtain ⟨S1, X⟩ := S
      simp only at S1 X
      have Mg := Lib.hid S1
      have Fg : Hid (Fit g) := by have := S1.in_.range; have := ht9.1.len; exact ⟨by omega, by omega⟩
      have HT9 := Lib.hid ht9
      have HF9 := Lib.hid (HF8.out.trans hf9)
      have LT9 : Hid (T9.length ≤ 49) := by show _ ≤ _; have := X.len; have := LT8.out; omega
      replace IA := Lib.hid (IA.out.ext X)
      replace IB := Lib.hid (IB.out.ext X)
      replace IX := Lib.hid (IX.out.ext X)
      replace HXT := Lib.hid (HXT.out.ext X)
      replace Mf := Lib.hid (Mf.out.ext X)
      clear S1 p9 e9 ht9 hf9 X
      go_wp2_with fail
      have key := finishes_any a tr f w9 HT9.out FA.out FX.out Ff.out
      refine key.mono ?_
      clear key
      rintro e w10 p10
      obtain ⟨⟨T10, b10⟩, e10⟩ : ∃ r, askT T9 lbFinished a tr f = r := ⟨_, rfl⟩
      obtain ⟨rfl, ht10, hf10⟩ := p10.intro e10
      have S := ask_spec (T := T9) (l := lbFinished) (k := a) (tr := tr) (m := f) HT9.out.1 (by decide) (by have := LT9.out; omega) IA.out Mf.out
      rw [e10] at S
      obtain ⟨hb, X⟩ := S
      replace hb : b10 = _ := hb
      replace X : Ext 3 _ T10 := X
      subst hb
      rw [decide_eq_true (show lbFinished = lbFinished ∧ a = a ∧ tr = tr from ⟨rfl, rfl, rfl⟩)]
      have HT10 := Lib.hid ht10
      have HF10 := Lib.hid (HF9.out.trans hf10)
      have LT10 : Hid (T10.length ≤ 53) := by show _ ≤ _; have := X.len; have := LT9.out; omega
      replace IA := Lib.hid (IA.out.ext X)
      replace IB := Lib.hid (IB.out.ext X)
      replace IX := Lib.hid (IX.out.ext X)
      replace HXT := Lib.hid (HXT.out.ext X)
      replace Mf := Lib.hid (Mf.out.ext X)
      replace Mg := Lib.hid (Mg.out.ext X)
      clear p10 e10 ht10 hf10 X
      go_wp2_with fail
      have key := binds_any a tr g w10 HT10.out FA.out FX.out Fg.out
      refine key.mono ?_
      clear key
      rintro e w11 p11
      obtain ⟨⟨T11, b11⟩, e11⟩ : ∃ r, askT T10 lbBinder a tr g = r := ⟨_, rfl⟩
      obtain ⟨rfl, ht11, hf11⟩ := p11.intro e11
      have S := ask_spec (T := T10) (l := lbBinder) (k := a) (tr := tr) (m := g) HT10.out.1 (by decide) (by have := LT10.out; omega) IA.out Mg.out
      rw [e11] at S
      obtain ⟨hb, X⟩ := S
      replace hb : b11 = _ := hb
      replace X : Ext 3 _ T11 := X
      subst hb
      rw [decide_eq_true (show lbBinder = lbBinder ∧ a = a ∧ tr = tr from ⟨rfl, rfl, rfl⟩)]
      have HT11 := Lib.hid ht11
      have HF11 := Lib.hid (HF10.out.trans hf11)
      have LT11 : Hid (T11.length ≤ 57) := by show _ ≤ _; have := X.len; have := LT10.out; omega
      replace IA := Lib.hid (IA.out.ext X)
      replace IB := Lib.hid (IB.out.ext X)
      replace IX := Lib.hid (IX.out.ext X)
      replace HXT := Lib.hid (HXT.out.ext X)
      replace Mf := Lib.hid (Mf.out.ext X)
      replace Mg := Lib.hid (Mg.out.ext X)
      clear p11 e11 ht11 hf11 X
      go_wp2_with fail
      have key := finishes_any a tr g w11 HT11.out FA.out FX.out Fg.out
      refine key.mono ?_
      clear key
      rintro e w12 p12
      obtain ⟨⟨T12, b12⟩, e12⟩ : ∃ r, askT T11 lbFinished a tr g = r := ⟨_, rfl⟩
      obtain ⟨rfl, ht12, hf12⟩ := p12.intro e12
      have S := ask_spec (T := T11) (l := lbFinished) (k := a) (tr := tr) (m := g) HT11.out.1 (by decide) (by have := LT11.out; omega) IA.out Mg.out
      rw [e12] at S
      obtain ⟨hb, X⟩ := S
      replace hb : b12 = _ := hb
      replace X : Ext 3 _ T12 := X
      subst hb
      rw [decide_eq_false (show ¬ (lbFinished = lbBinder ∧ a = a ∧ tr = tr) from fun h => fin_ne_bind h.1)]
      have HT12 := Lib.hid ht12
      have HF12 := Lib.hid (HF11.out.trans hf12)
      have LT12 : Hid (T12.length ≤ 61) := by show _ ≤ _; have := X.len; have := LT11.out; omega
      replace IA := Lib.hid (IA.out.ext X)
      replace IB := Lib.hid (IB.out.ext X)
      replace IX := Lib.hid (IX.out.ext X)
      replace HXT := Lib.hid (HXT.out.ext X)
      replace Mf := Lib.hid (Mf.out.ext X)
      replace Mg := Lib.hid (Mg.out.ext X)
      clear p12 e12 ht12 hf12 X
      go_wp2_with fail
      have key := binds_any a tr f w12 HT12.out FA.out FX.out Ff.out
      refine key.mono ?_
      clear key
      rintro e w13 p13
      obtain ⟨⟨T13, b13⟩, e13⟩ : ∃ r, askT T12 lbBinder a tr f = r := ⟨_, rfl⟩
      obtain ⟨rfl, ht13, hf13⟩ := p13.intro e13
      have S := ask_spec (T := T12) (l := lbBinder) (k := a) (tr := tr) (m := f) HT12.out.1 (by decide) (by have := LT12.out; omega) IA.out Mf.out
      rw [e13] at S
      obtain ⟨hb, X⟩ := S
      replace hb : b13 = _ := hb
      replace X : Ext 3 _ T13 := X
      subst hb
      rw [decide_eq_false (show ¬ (lbBinder = lbFinished ∧ a = a ∧ tr = tr) from fun h => bind_ne_fin h.1)]
      have HT13 := Lib.hid ht13
      have HF13 := Lib.hid (HF12.out.trans hf13)
      have LT13 : Hid (T13.length ≤ 65) := by show _ ≤ _; have := X.len; have := LT12.out; omega
      replace IA := Lib.hid (IA.out.ext X)
      replace IB := Lib.hid (IB.out.ext X)
      replace IX := Lib.hid (IX.out.ext X)
      replace HXT := Lib.hid (HXT.out.ext X)
      replace Mf := Lib.hid (Mf.out.ext X)
      replace Mg := Lib.hid (Mg.out.ext X)
      clear p13 e13 ht13 hf13 X
      go_wp2_with fail
      have key := next_any tr none 0 0 [] w13 HT13.out (Rds.nil 0 _ _) FX.out
      refine key.mono ?_
      clear key
      rintro e w14 p14
      have S := next_spec (T := T13) (tr := tr) (m := strOfNums []) HT13.out.1 (by decide) (by have := LT13.out; omega) IX.out
      have X := nextT_ext T13 tr (strOfNums [])
      obtain ⟨⟨T14, wh⟩, e14⟩ : ∃ r, nextT T13 tr (strOfNums []) = r := ⟨_, rfl⟩
      obtain ⟨rfl, ht14, hf14⟩ := p14.intro e14
      rw [e14] at S X
      simp only at S X
      have HNE : Hid (¬ wh = tr) := next_ne ht14.1 S
      have IW : Hid (In T14 wh) := by obtain ⟨_, _, q, _⟩ := S; exact ⟨_, q⟩
      have FW : Hid (Fit wh) := by have := IW.out.range; have := ht14.1.len; exact ⟨by omega, by omega⟩
      clear S
      have HT14 := Lib.hid ht14
      have HF14 := Lib.hid (HF13.out.trans hf14)
      have LT14 : Hid (T14.length ≤ 69) := by show _ ≤ _; have := X.len; have := LT13.out; omega
      replace IA := Lib.hid (IA.out.ext X)
      replace IB := Lib.hid (IB.out.ext X)
      replace IX := Lib.hid (IX.out.ext X)
      replace HXT := Lib.hid (HXT.out.ext X)
      replace Mf := Lib.hid (Mf.out.ext X)
      replace Mg := Lib.hid (Mg.out.ext X)
      clear p14 e14 ht14 hf14 X
      cases other with
      | false =>
        go_wp2_with fail
        have key := finishes_any a wh f w14 HT14.out FA.out FW.out Ff.out
        refine key.mono ?_
        clear key
        rintro e w15 p15
        obtain ⟨⟨T15, b15⟩, e15⟩ : ∃ r, askT T14 lbFinished a wh f = r := ⟨_, rfl⟩
        obtain ⟨rfl, ht15, hf15⟩ := p15.intro e15
        have S := ask_spec (T := T14) (l := lbFinished) (k := a) (tr := wh) (m := f) HT14.out.1 (by decide) (by have := LT14.out; omega) IA.out Mf.out
        rw [e15] at S
        obtain ⟨hb, X⟩ := S
        replace hb : b15 = _ := hb
        replace X : Ext 3 _ T15 := X
        subst hb
        rw [decide_eq_false (show ¬ (lbFinished = lbFinished ∧ a = a ∧ wh = tr) from fun h => HNE.out h.2.2)]
        have HT15 := Lib.hid ht15
        have HF15 := Lib.hid (HF14.out.trans hf15)
        have LT15 : Hid (T15.length ≤ 73) := by show _ ≤ _; have := X.len; have := LT14.out; omega
        replace IA := Lib.hid (IA.out.ext X)
        replace IB := Lib.hid (IB.out.ext X)
        replace IX := Lib.hid (IX.out.ext X)
        replace Mf := Lib.hid (Mf.out.ext X)
        replace Mg := Lib.hid (Mg.out.ext X)
        clear p15 e15 ht15 hf15 X
        go_wp2_with fail
        have key := binds_any a wh g w15 HT15.out FA.out FW.out Fg.out
        refine key.mono ?_
        clear key
        rintro e w16 p16
        obtain ⟨⟨T16, b16⟩, e16⟩ : ∃ r, askT T15 lbBinder a wh g = r := ⟨_, rfl⟩
        obtain ⟨rfl, ht16, hf16⟩ := p16.intro e16
        have S := ask_spec (T := T15) (l := lbBinder) (k := a) (tr := wh) (m := g) HT15.out.1 (by decide) (by have := LT15.out; omega) IA.out Mg.out
        rw [e16] at S
        obtain ⟨hb, X⟩ := S
        replace hb : b16 = _ := hb
        replace X : Ext 3 _ T16 := X
        subst hb
        rw [decide_eq_false (show ¬ (lbBinder = lbBinder ∧ a = a ∧ wh = tr) from fun h => HNE.out h.2.2)]
        have HT16 := Lib.hid ht16
        have HF16 := Lib.hid (HF15.out.trans hf16)
        have LT16 : Hid (T16.length ≤ 77) := by show _ ≤ _; have := X.len; have := LT15.out; omega
        replace IA := Lib.hid (IA.out.ext X)
        replace IB := Lib.hid (IB.out.ext X)
        replace IX := Lib.hid (IX.out.ext X)
        replace Mf := Lib.hid (Mf.out.ext X)
        replace Mg := Lib.hid (Mg.out.ext X)
        clear p16 e16 ht16 hf16 X
        go_wp2_with fail
        have key := awake15_any w16
        refine key.mono ?_
        clear key
        rintro e w17 ⟨rfl, hb17⟩
        have HB17 := Lib.hid (below_next (HF16.out.below (Nat.le_refl _)) (HF16.out.below (Nat.le_refl _)).size hb17)
        clear hb17
        go_wp2_with fail
        go_ret
        exact ⟨rfl, HB17.out⟩
      | true =>
        go_wp2_with fail
        have key := finishes_any b tr f w14 HT14.out FB.out FX.out Ff.out
        refine key.mono ?_
        clear key
        rintro e w15 p15
        obtain ⟨⟨T15, b15⟩, e15⟩ : ∃ r, askT T14 lbFinished b tr f = r := ⟨_, rfl⟩
        obtain ⟨rfl, ht15, hf15⟩ := p15.intro e15
        have S := ask_spec (T := T14) (l := lbFinished) (k := b) (tr := tr) (m := f) HT14.out.1 (by decide) (by have := LT14.out; omega) IB.out Mf.out
        rw [e15] at S
        obtain ⟨hb, X⟩ := S
        replace hb : b15 = _ := hb
        replace X : Ext 3 _ T15 := X
        subst hb
        rw [decide_eq_false (show ¬ (lbFinished = lbFinished ∧ b = a ∧ tr = tr) from fun h => HAB.out h.2.1.symm)]
        have HT15 := Lib.hid ht15
        have HF15 := Lib.hid (HF14.out.trans hf15)
        have LT15 : Hid (T15.length ≤ 73) := by show _ ≤ _; have := X.len; have := LT14.out; omega
        replace IA := Lib.hid (IA.out.ext X)
        replace IB := Lib.hid (IB.out.ext X)
        replace IX := Lib.hid (IX.out.ext X)
        replace Mf := Lib.hid (Mf.out.ext X)
        replace Mg := Lib.hid (Mg.out.ext X)
        clear p15 e15 ht15 hf15 X
        go_wp2_with fail
        have key := binds_any b tr g w15 HT15.out FB.out FX.out Fg.out
        refine key.mono ?_
        clear key
        rintro e w16 p16
        obtain ⟨⟨T16, b16⟩, e16⟩ : ∃ r, askT T15 lbBinder b tr g = r := ⟨_, rfl⟩
        obtain ⟨rfl, ht16, hf16⟩ := p16.intro e16
        have S := ask_spec (T := T15) (l := lbBinder) (k := b) (tr := tr) (m := g) HT15.out.1 (by decide) (by have := LT15.out; omega) IB.out Mg.out
        rw [e16] at S
        obtain ⟨hb, X⟩ := S
        replace hb : b16 = _ := hb
        replace X : Ext 3 _ T16 := X
        subst hb
        rw [decide_eq_false (show ¬ (lbBinder = lbBinder ∧ b = a ∧ tr = tr) from fun h => HAB.out h.2.1.symm)]
        have HT16 := Lib.hid ht16
        have HF16 := Lib.hid (HF15.out.trans hf16)
        have LT16 : Hid (T16.length ≤ 77) := by show _ ≤ _; have := X.len; have := LT15.out; omega
        replace IA := Lib.hid (IA.out.ext X)
        replace IB := Lib.hid (IB.out.ext X)
        replace IX := Lib.hid (IX.out.ext X)
        replace Mf := Lib.hid (Mf.out.ext X)
        replace Mg := Lib.hid (Mg.out.ext X)
        clear p16 e16 ht16 hf16 X
        go_wp2_with fail
        have key := awake15_any w16
        refine key.mono ?_
        clear key
        rintro e w17 ⟨rfl, hb17⟩
        have HB17 := Lib.hid (below_next (HF16.out.below (Nat.le_refl _)) (HF16.out.below (Nat.le_refl _)).size hb17)
        clear hb17
        go_wp2_with fail
        go_ret
        exact ⟨rfl, HB17.out⟩
theorem asks_row {A0 : Option Addr} {n0 c0 : Nat} (w : World) (h0 : ∃ L, RdRows w.heap.size w A0 n0 L ∧ ∀ xs ∈ L, Byt xs) (g : Int) (wg : (Lit.int .u8 g).wf = true) (other : Bool) :
    Calls Try.prog 5 #[.slice A0 n0 c0, .int .u8 g, .bool other] w fun e w' => e = .returned (.bool true) ∧ Below w.heap.size w w' := by
  obtain ⟨L, a, b⟩ := h0
  have := bounds_u8 wg
  exact asks_walk w _ _ _ L a g this.1 this.2 other
end Go.Proofs.Ytbcicfgffjgpdaa
