/- The walk of SchedUnlike. No condition. -/
import Derived.Test.YtbcicfgffjgpdaaLaw15
import Derived.Test.YtbcicfgffjgpdaaRowRows
set_option linter.unusedVariables false
set_option linter.unusedSimpArgs false
namespace Go.Proofs.Ytbcicfgffjgpdaa
open Go Go.RowKit Go.WideMaps

/-- The first k messages, the last one first. -/
def msgs (L : List (List Int)) (k : Nat) : List ByteArray := ((L.take k).map strOfNums).reverse
theorem msgs_succ {L : List (List Int)} {k : Nat} {xs : List Int} (h : L[k]? = some xs) : msgs L (k + 1) = strOfNums xs :: msgs L k := by
  unfold msgs
  rw [List.take_add_one, h]
  simp
theorem strs_inj : ∀ {L M : List (List Int)}, (∀ xs ∈ L, Byt xs) → (∀ xs ∈ M, Byt xs) → L.map strOfNums = M.map strOfNums → L = M
  | [], [], _, _, _ => rfl
  | [], _ :: _, _, _, h => by simp at h
  | _ :: _, [], _, _, h => by simp at h
  | x :: L, y :: M, hL, hM, h => by
    simp only [List.map_cons, List.cons.injEq] at h
    rw [strOfNums_inj (hL x (by simp)) (hM y (by simp)) h.1, strs_inj (fun xs h => hL xs (by simp [h])) (fun xs h => hM xs (by simp [h])) h.2]
theorem msgs_inj {L M : List (List Int)} (hL : ∀ xs ∈ L, Byt xs) (hM : ∀ xs ∈ M, Byt xs) (h : msgs L L.length = msgs M M.length) : L = M := by
  unfold msgs at h
  rw [List.take_length, List.take_length] at h
  exact strs_inj hL hM (List.reverse_inj.1 h)
/-- Are two rows alike so far? -/
def likeT (L M : List (List Int)) (k : Nat) : Bool := decide (L.length = M.length ∧ L.take k = M.take k)
theorem likeT_zero (L M : List (List Int)) : likeT L M 0 = decide (L.length = M.length) := by simp [likeT]
theorem likeT_all (L M : List (List Int)) : likeT L M L.length = decide (L = M) := by
  unfold likeT
  by_cases h : L = M
  · subst h; simp
  · rw [decide_eq_false h, decide_eq_false]
    rintro ⟨h1, h2⟩
    rw [List.take_length, h1, List.take_length] at h2
    exact h h2
theorem likeT_succ {L M : List (List Int)} {k : Nat} {xs ys : List Int} (h : L[k]? = some xs) (h' : M[k]? = some ys) : likeT L M (k + 1) = (likeT L M k && decide (xs = ys)) := by
  unfold likeT
  rw [List.take_add_one, List.take_add_one, h, h']
  by_cases h1 : L.length = M.length
  · by_cases h2 : L.take k = M.take k
    · by_cases h3 : xs = ys
      · simp [h1, h2, h3]
      · simp [h1, h2, h3]
    · have : ¬ (L.take k ++ [xs] = M.take k ++ [ys]) := fun e => h2 (by
        have := congrArg List.length e
        simp at this
        exact (List.append_inj e (by
          have a := (List.getElem?_eq_some_iff.1 h).1
          have b := (List.getElem?_eq_some_iff.1 h').1
          simp; omega)).1)
      simp [h1, h2, this]
  · simp [h1]
theorem likeT_false {L M : List (List Int)} {k : Nat} (h : likeT L M k = false) : likeT L M (k + 1) = false := by
  unfold likeT at h ⊢
  rw [decide_eq_false_iff_not] at h ⊢
  rintro ⟨h1, h2⟩
  refine h ⟨h1, ?_⟩
  have := congrArg (List.take k) h2
  rw [List.take_take, List.take_take] at this
  rwa [Nat.min_eq_left (by omega)] at this

set_option maxHeartbeats 3200000 in
set_option maxRecDepth 100000 in
theorem unlike_walk (w : World) (A0 A1 : Option Addr) (n0 n1 c0 c1 : Nat) (L M : List (List Int)) (h0 : RdRows w.heap.size w A0 n0 L) (h1 : RdRows w.heap.size w A1 n1 M) (b0 : ∀ xs ∈ L, Byt xs) (b1 : ∀ xs ∈ M, Byt xs) :
    Calls Try.prog 3 #[.slice A0 n0 c0, .slice A1 n1 c1] w (AwakePost w) := by
  have H0 := Lib.hid h0
  have H1 := Lib.hid h1
  have HL := Lib.hid b0
  have HM := Lib.hid b1
  clear h0 h1 b0 b1
  go_enter Try.func3, Try.ntmps3
  by_cases k0 : 10 < n0
  · go_wp2_with fail
    go_ret
    exact ⟨rfl, Below.refl _ _⟩
  by_cases k1 : 10 < n1
  · go_wp2_with fail
    go_ret
    exact ⟨rfl, Below.refl _ _⟩
  go_wp2_with fail
  refine (new_any w).mono ?_
  rintro e w1 ⟨tb, rfl, ht1, hb1⟩
  have key := begin_any w1 ht1
  have HF1 := Lib.hid (Frm.of_below (C := tabO) (B := w.heap.size) hb1)
  clear ht1 hb1
  go_wp2_with fail
  refine key.mono ?_
  clear key
  rintro e w2 p2
  obtain ⟨rfl, ht2, hf2⟩ := p2.intro begin_eq
  have HF2 := Lib.hid (HF1.out.trans hf2)
  have key := begin_any w2 ht2
  clear p2 ht2 hf2 HF1
  go_wp2_with fail
  refine key.mono ?_
  clear key
  rintro e w3 p3
  obtain ⟨rfl, ht3, hf3⟩ := p3.intro (show beginT [nT ByteArray.empty] = ([nT ByteArray.empty], 1) from by decide)
  have HF3 := Lib.hid (HF2.out.trans hf3)
  have HT3 := Lib.hid ht3
  have HB3 := Lib.hid (HF3.out.below (Nat.le_refl _))
  have hal : Hid (((n0 : Int) == (n1 : Int)) = likeT L M 0) := by
    show _ = _
    rw [likeT_zero, H0.out.1, H1.out.1]
    by_cases h : n0 = n1
    · subst h; simp
    · simp [h]; omega
  clear p3 ht3 hf3 HF2
  go_wp2_with fail
  rw [hal.out]
  go_loopw [6, 8, 9] (fun x al i wr => ∃ (k : Nat) (T : List Nd) (tr : Int), k ≤ n0 ∧ i = .int .i64 k ∧ x = .int .i64 tr ∧ al = .bool (likeT L M k) ∧ IsTab w.heap.size wr tb T ∧ TrAt T tr (msgs L k) ∧ TrAt T 1 [] ∧ T.length ≤ 1 + 3 * k ∧ Below w.heap.size w wr) (fun _ _ i _ => n0 - (intOf i).toNat)
  case atStart => exact ⟨0, [nT ByteArray.empty], 1, Nat.zero_le _, rfl, rfl, rfl, HT3.out, rfl, rfl, by simp, HB3.out⟩
  case round =>
    obtain ⟨k, T, tr, hk, rfl, rfl, rfl, ht, hx, hy, hTl, hb⟩ := hrel
    have HX := Lib.hid hx
    have HY := Lib.hid hy
    have HT := Lib.hid ht
    have HB := Lib.hid hb
    clear hx hy ht hb
    by_cases hlt : k < n0
    · obtain ⟨xs, hxs⟩ : ∃ xs, L[k]? = some xs := ⟨_, List.getElem?_eq_getElem (by have := H0.out.1; omega)⟩
      obtain ⟨b, o, A', c', rfl, x0, hr⟩ := (H0.out.below HB.out).at_ hxs
      have HXS := Lib.hid hxs
      have hi0 : (0 : Int) ≤ (k : Int) := by omega
      have hi1 : (k : Int) < (n0 : Int) := by omega
      clear hxs
      by_cases hlong : 200 < xs.length
      · clear hr
        go_wp2_with fail
        go_ret
        exact ⟨rfl, HB.out⟩
      have hin := HX.out.in_
      have hrg := hin.range
      have key := next_any tr A' _ c' xs wr HT.out hr ⟨by omega, by omega⟩
      have S := next_spec (T := T) (tr := tr) (m := strOfNums xs) HT.out.1 (by rw [strOfNums_size]; omega) (by omega) hin
      have E := nextT_ext T tr (strOfNums xs)
      have HR := Lib.hid hr
      clear hr hin hrg
      go_wp2_with fail
      refine key.mono ?_
      clear key
      rintro e w4 p4
      obtain ⟨T4, h4, e4, rfl, ht4, hf4⟩ := TabPost.of (Frm.refl _ _ _) p4
      rw [e4] at S E
      simp only at S E
      have HT4 := Lib.hid ht4
      have HX4 : Hid (TrAt T4 h4 (msgs L (k + 1))) := by
        show TrAt _ _ _
        rw [msgs_succ HXS.out]
        exact ⟨tr, HX.out.ext E, S⟩
      have HY4 : Hid (TrAt T4 1 []) := HY.out.ext E
      have HE := E.len
      have HB4 := Lib.hid (HB.out.trans (hf4.below HB.out.size))
      have HR4 := Lib.hid (HR.out.frm hf4.tab_sp)
      clear p4 e4 ht4 hf4 S E HX HY HT HB HR
      by_cases hlk : likeT L M k = true
      · have hlk' := hlk
        unfold likeT at hlk'
        rw [decide_eq_true_iff] at hlk'
        obtain ⟨ys, hys⟩ : ∃ ys, M[k]? = some ys := ⟨_, List.getElem?_eq_getElem (by have := (List.getElem?_eq_some_iff.1 HXS.out).1; omega)⟩
        have HE5 : Hid (likeT L M (k + 1) = decide (xs = ys)) := by show _ = _; rw [likeT_succ HXS.out hys, hlk]; simp
        obtain ⟨b', o', B', d', rfl, y0, hr2⟩ := (H1.out.below HB4.out).at_ hys
        obtain ⟨b2, o2, A2, c2, eA, z0, hr1⟩ := (H0.out.below HB4.out).at_ HXS.out
        cases eA
        have hj1 : (k : Int) < (n1 : Int) := by have := (List.getElem?_eq_some_iff.1 hys).1; have := H1.out.1; omega
        rw [hlk]
        have hbx := HL.out xs (List.mem_of_getElem? HXS.out)
        have hby := HM.out ys (List.mem_of_getElem? hys)
        have hcmp : Hid (((strOfNums xs).toList == (strOfNums ys).toList) = decide (xs = ys)) := by
          show _ = _
          rw [str_beq]
          by_cases h : xs = ys
          · subst h; simp
          · rw [decide_eq_false h, decide_eq_false (fun e => h (strOfNums_inj hbx hby e))]
        have HR1 := Lib.hid hr1
        have HR2 := Lib.hid hr2
        clear hlk hlk' hys hr1 hr2 hbx hby
        go_wp2_with fail
        refine wp_still_all (by kernel_rfl) (by kernel_rfl) ?_
        intro w5 hw5
        have y5 : w5.cell? ⟨b', o' + k, none⟩ = some (.slice B' ys.length d') := by rw [hw5]; exact y0
        have z5 : w5.cell? ⟨b, o + k, none⟩ = some (.slice A2 xs.length c2) := by rw [hw5]; exact z0
        have cv1 : (convert 27 9 (.slice A2 xs.length c2)).run Try.prog w5 = .ok (.string (strOfNums xs)) w5 := by rw [hw5]; exact run_bytes_string (HR1.out.below ((Below.refl _ _).drew))
        have cv2 : (convert 27 9 (.slice B' ys.length d')).run Try.prog w5 = .ok (.string (strOfNums ys)) w5 := by rw [hw5]; exact run_bytes_string (HR2.out.below ((Below.refl _ _).drew))
        have B5 : Hid (Below w4.heap.size w4 w5) := by rw [hw5]; exact (Below.refl _ _).drew
        clear hw5 y0 z0 x0
        repeat still_step
        refine wpStill_nil ?_
        rw [hcmp.out]
        have HT5 := Lib.hid (HT4.out.below B5.out)
        have HB5 := Lib.hid (below_next HB4.out HB4.out.size B5.out)
        clear y5 z5 cv1 cv2
        go_wp2_with fail
        go_roundw
        case rel => exact ⟨k + 1, T4, h4, by omega, by go_num, rfl, by rw [HE5.out], HT5.out, HX4.out, HY4.out, by omega, HB5.out⟩
        case measure => simp [intOf]; omega
      · have hlk' : likeT L M k = false := by simpa using hlk
        have HE5 := Lib.hid (likeT_false hlk')
        rw [hlk']
        clear hlk hlk'
        go_wp2_with fail
        go_quiet (fail)
        have B5 : Hid (Below w4.heap.size w4 (w4.drewN nq)) := below_drewN (Below.refl _ _) _
        have HT5 := Lib.hid (HT4.out.below B5.out)
        have HB5 := Lib.hid (below_next HB4.out HB4.out.size B5.out)
        go_wp2_with fail
        go_roundw
        case rel => exact ⟨k + 1, T4, h4, by omega, by go_num, rfl, by rw [HE5.out], HT5.out, HX4.out, HY4.out, by omega, HB5.out⟩
        case measure => simp [intOf]; omega
    · obtain rfl : k = n0 := by omega
      have HLE : Hid (likeT L M k = decide (L = M)) := by show _ = _; rw [← H0.out.1]; exact likeT_all L M
      rw [HLE.out]
      go_wp2_with fail
      go_loopw [7, 10] (fun y i wz => ∃ (j : Nat) (T2 : List Nd) (tr2 : Int), j ≤ n1 ∧ i = .int .i64 j ∧ y = .int .i64 tr2 ∧ IsTab w.heap.size wz tb T2 ∧ TrAt T2 tr (msgs L k) ∧ TrAt T2 tr2 (msgs M j) ∧ T2.length ≤ 100 + 3 * j ∧ Below w.heap.size w wz) (fun _ i _ => n1 - (intOf i).toNat)
      case atStart => exact ⟨0, T, 1, Nat.zero_le _, rfl, rfl, HT.out, HX.out, HY.out, by omega, HB.out⟩
      case round =>
        obtain ⟨j, T2, tr2, hj, rfl, rfl, ht, hx, hy, hTl2, hb⟩ := hrel
        have HX2 := Lib.hid hx
        have HY2 := Lib.hid hy
        have HT2 := Lib.hid ht
        have HB2 := Lib.hid hb
        clear hx hy ht hb HX HY HT HB
        by_cases hlt : j < n1
        · obtain ⟨ys, hys⟩ : ∃ ys, M[j]? = some ys := ⟨_, List.getElem?_eq_getElem (by have := H1.out.1; omega)⟩
          obtain ⟨b, o, A', c', rfl, x0, hr⟩ := (H1.out.below HB2.out).at_ hys
          have HYS := Lib.hid hys
          have hi0 : (0 : Int) ≤ (j : Int) := by omega
          have hi1 : (j : Int) < (n1 : Int) := by omega
          clear hys
          by_cases hlong : 200 < ys.length
          · clear hr
            go_wp2_with fail
            go_ret
            exact ⟨rfl, HB2.out⟩
          have hin := HY2.out.in_
          have hrg := hin.range
          have key := next_any tr2 A' _ c' ys wr HT2.out hr ⟨by omega, by omega⟩
          have S := next_spec (T := T2) (tr := tr2) (m := strOfNums ys) HT2.out.1 (by rw [strOfNums_size]; omega) (by omega) hin
          have E := nextT_ext T2 tr2 (strOfNums ys)
          clear hr hin hrg
          go_wp2_with fail
          refine key.mono ?_
          clear key
          rintro e w4 p4
          obtain ⟨T4, h4, e4, rfl, ht4, hf4⟩ := TabPost.of (Frm.refl _ _ _) p4
          rw [e4] at S E
          simp only at S E
          have HT4 := Lib.hid ht4
          have HY4 : Hid (TrAt T4 h4 (msgs M (j + 1))) := by
            show TrAt _ _ _
            rw [msgs_succ HYS.out]
            exact ⟨tr2, HY2.out.ext E, S⟩
          have HX4 : Hid (TrAt T4 tr (msgs L k)) := HX2.out.ext E
          have HE := E.len
          have HB4 := Lib.hid (HB2.out.trans (hf4.below HB2.out.size))
          clear p4 e4 ht4 hf4 S E x0
          go_wp2_with fail
          go_roundw
          case rel => exact ⟨j + 1, T4, h4, by omega, by go_num, rfl, HT4.out, HX4.out, HY4.out, by omega, HB4.out⟩
          case measure => simp [intOf]; omega
        · obtain rfl : j = n1 := by omega
          have key := secret_any wr HT2.out
          have E3 := secret_new (T := T2) (by omega)
          go_wp2_with fail
          refine key.mono ?_
          clear key
          rintro e w4 p4
          obtain ⟨T3, m, e3, rfl, ht3, hf3⟩ := TabPost.of (Frm.of_below (C := tabO) HB2.out) p4
          have X3 : Ext 1 T2 T3 := by have := secretT_ext T2; rw [e3] at this; exact this
          have IM : Hid (In T3 m) := by have := secret_get (T := T2) (by omega); rw [e3] at this; exact ⟨_, this⟩
          have L3 := X3.len
          have IX3 := Lib.hid (HX2.out.in_.ext X3)
          have IY3 := Lib.hid (HY2.out.in_.ext X3)
          have HX3 : Hid (TrAt T3 tr (msgs L k)) := HX2.out.ext X3
          have HY3 : Hid (TrAt T3 tr2 (msgs M j)) := HY2.out.ext X3
          have rm := IM.out.range
          have rx := IX3.out.range
          have ry := IY3.out.range
          have FM : Hid (Fit m) := ⟨by omega, by omega⟩
          have FX : Hid (Fit tr) := ⟨by omega, by omega⟩
          have FY : Hid (Fit tr2) := ⟨by omega, by omega⟩
          have key := mainTraffic_any m tr w4 ht3 FM.out FX.out
          have S5 := pair_spec (T := T3) (s := m) (tr := tr) (l1 := lbClientApp) (l2 := lbServerApp) ht3.1 (by decide) (by decide) (by omega) IM.out IX3.out
          have HF3' := Lib.hid hf3
          have HL3 := Lib.hid (show T3.length ≤ 131 by omega)
          clear p4 e3 ht3 hf3 X3 L3 rm rx ry E3
          go_wp2_with fail
          refine key.mono ?_
          clear key
          rintro e w5 p5
          obtain ⟨⟨T5, c, s⟩, e5⟩ : ∃ r, pairT T3 lbClientApp lbServerApp m tr = r := ⟨_, rfl⟩
          obtain ⟨rfl, ht5, hf5⟩ := p5.intro e5
          rw [e5] at S5
          obtain ⟨S5a, S5b, S5c⟩ := S5
          simp only at S5a S5b S5c
          have L5 := S5c.len
          have key := mainTraffic_any m tr2 w5 ht5 FM.out FY.out
          have S6 := pair_spec (T := T5) (s := m) (tr := tr2) (l1 := lbClientApp) (l2 := lbServerApp) ht5.1 (by decide) (by decide) (by have := HL3.out; omega) (IM.out.ext S5c) (IY3.out.ext S5c)
          have DC5 := Lib.hid S5a
          have DS5 := Lib.hid S5b
          have X5 := Lib.hid S5c
          have HF5 := Lib.hid (HF3'.out.trans hf5)
          clear p5 e5 ht5 hf5 S5a S5b S5c
          go_wp2_with fail
          refine key.mono ?_
          clear key
          rintro e w6 p6
          obtain ⟨⟨T6, d, r⟩, e6⟩ : ∃ r, pairT T5 lbClientApp lbServerApp m tr2 = r := ⟨_, rfl⟩
          obtain ⟨rfl, ht6, hf6⟩ := p6.intro e6
          rw [e6] at S6
          obtain ⟨S6a, S6b, S6c⟩ := S6
          simp only at S6a S6b S6c
          have HT6 := Lib.hid ht6
          have HF6 := Lib.hid (HF5.out.trans hf6)
          have LT6 : Hid (T6.length ≤ 200) := by show _ ≤ _; have := S6c.len; have := HL3.out; omega
          have LT : Hid (T6.length ≤ 65533) := by show _ ≤ _; have := LT6.out; omega
          have DC := Lib.hid (DC5.out.ext S6c)
          have DS := Lib.hid (DS5.out.ext S6c)
          have DD := Lib.hid S6a
          have DR := Lib.hid S6b
          have IX := Lib.hid ((IX3.out.ext X5.out).ext S6c)
          have IY := Lib.hid ((IY3.out.ext X5.out).ext S6c)
          have FC : Hid (Fit c) := by have := DC.out.in_.range; have := LT6.out; exact ⟨by omega, by omega⟩
          have FD : Hid (Fit d) := by have := DD.out.in_.range; have := LT6.out; exact ⟨by omega, by omega⟩
          have hcs : (c != s) = true := by
            rw [bne_iff_ne]
            rintro rfl
            exact absurd (DC.out.inj DS.out).2.1 (by decide)
          clear p6 e6 ht6 hf6 S6a S6b S6c L5
          by_cases hLM : L = M
          · have htr : tr = tr2 := by
              refine TrAt.uniq HT2.out.1 HX2.out (ms := msgs L k) ?_
              have := HY2.out
              rw [hLM]
              have e1 := H0.out.1
              have e2 := H1.out.1
              rw [hLM] at e1
              have : k = j := by omega
              rw [this]
              exact HY2.out
            have hcd : c = d := DC.out.uniq HT6.out.1 (by rw [htr]; exact DD.out)
            have hsr : s = r := DS.out.uniq HT6.out.1 (by rw [htr]; exact DR.out)
            have b1 : (tr == tr2) = true := by rw [beq_iff_eq]; exact htr
            have b2 : (c == d) = true := by rw [beq_iff_eq]; exact hcd
            have b3 : (s == r) = true := by rw [beq_iff_eq]; exact hsr
            have hcd' := Lib.hid hcd
            have htr' := Lib.hid htr
            rw [decide_eq_true hLM]
            clear hLM htr hcd hsr
            go_wp2_with fail
            refine (finished_any c tr _ HT6.out FC.out FX.out LT.out).mono ?_
            rintro e w7 p7
            obtain ⟨dk, S7a, S7b, S7c⟩ := mac_spec (T := T6) (k := c) (tr := tr) (l := lbFinished) HT6.out.1 (by decide) (by have := LT6.out; omega) (DC.out.in_) IX.out
            obtain ⟨T7, f1, e7, rfl, ht7, hf7⟩ := TabPost.of HF6.out p7
            rw [e7] at S7a S7b S7c
            simp only at S7a S7b S7c
            have HT7 := Lib.hid ht7
            have HF7 := Lib.hid hf7
            have LT7 := Lib.hid S7c.len
            have N7 := Lib.hid S7b
            have D7 := Lib.hid S7a
            have X7 := Lib.hid S7c
            clear p7 e7 ht7 hf7 S7a S7b S7c
            go_wp2_with fail
            refine (finished_any d tr2 _ HT7.out FD.out FY.out (by have := LT7.out; have := LT6.out; omega)).mono ?_
            rintro e w8 p8
            obtain ⟨dk2, S8a, S8b, S8c⟩ := mac_spec (T := T7) (k := d) (tr := tr2) (l := lbFinished) HT7.out.1 (by decide) (by have := LT7.out; have := LT6.out; omega) ((DD.out.ext X7.out).in_) (IY.out.ext X7.out)
            obtain ⟨T8, f2, e8, rfl, ht8, hf8⟩ := TabPost.of HF7.out p8
            rw [e8] at S8a S8b S8c
            simp only at S8a S8b S8c
            have HF8 := Lib.hid hf8
            have hff : (f1 == f2) = true := by
              rw [beq_iff_eq]
              obtain rfl : dk = dk2 := (D7.out.ext S8c).uniq ht8.1 (by have := hcd'.out; rw [this]; exact S8a)
              exact getT_uniq ht8.1 (S8c.get N7.out) (by rw [htr'.out]; exact S8b) (by simp)
            clear p8 e8 ht8 hf8 S8a S8b S8c
            go_wp2_with fail
            refine (awake15_any _).mono ?_
            rintro e w9 ⟨rfl, hb9⟩
            have HB9 := Lib.hid (below_next (HF8.out.below (Nat.le_refl _)) (HF8.out.below (Nat.le_refl _)).size hb9)
            clear hb9
            go_wp2_with fail
            go_ret
            exact ⟨rfl, HB9.out⟩
          · have htr : ¬ tr = tr2 := by
              intro h
              have h2 := HY2.out
              rw [← h] at h2
              have := TrAt.inj HX2.out h2
              rw [← H0.out.1, ← H1.out.1] at this
              exact hLM (msgs_inj HL.out HM.out this)
            have hcd : ¬ c = d := fun h => htr (by have := DD.out; rw [← h] at this; exact (DC.out.inj this).2.2)
            have hsr : ¬ s = r := fun h => htr (by have := DR.out; rw [← h] at this; exact (DS.out.inj this).2.2)
            have b1 : (tr == tr2) = false := by rw [beq_eq_false_iff_ne]; exact htr
            have b2 : (c == d) = false := by rw [beq_eq_false_iff_ne]; exact hcd
            have b3 : (s == r) = false := by rw [beq_eq_false_iff_ne]; exact hsr
            have htr' := Lib.hid htr
            rw [decide_eq_false hLM]
            clear hLM htr hcd hsr
            go_wp2_with fail
            refine (finished_any c tr _ HT6.out FC.out FX.out LT.out).mono ?_
            rintro e w7 p7
            obtain ⟨dk, S7a, S7b, S7c⟩ := mac_spec (T := T6) (k := c) (tr := tr) (l := lbFinished) HT6.out.1 (by decide) (by have := LT6.out; omega) (DC.out.in_) IX.out
            obtain ⟨T7, f1, e7, rfl, ht7, hf7⟩ := TabPost.of HF6.out p7
            rw [e7] at S7a S7b S7c
            simp only at S7a S7b S7c
            have HT7 := Lib.hid ht7
            have HF7 := Lib.hid hf7
            have LT7 := Lib.hid S7c.len
            have N7 := Lib.hid S7b
            have D7 := Lib.hid S7a
            have X7 := Lib.hid S7c
            clear p7 e7 ht7 hf7 S7a S7b S7c
            go_wp2_with fail
            refine (finished_any d tr2 _ HT7.out FD.out FY.out (by have := LT7.out; have := LT6.out; omega)).mono ?_
            rintro e w8 p8
            obtain ⟨dk2, S8a, S8b, S8c⟩ := mac_spec (T := T7) (k := d) (tr := tr2) (l := lbFinished) HT7.out.1 (by decide) (by have := LT7.out; have := LT6.out; omega) ((DD.out.ext X7.out).in_) (IY.out.ext X7.out)
            obtain ⟨T8, f2, e8, rfl, ht8, hf8⟩ := TabPost.of HF7.out p8
            rw [e8] at S8a S8b S8c
            simp only at S8a S8b S8c
            have HF8 := Lib.hid hf8
            have hff : (f1 == f2) = false := by
              rw [beq_eq_false_iff_ne]
              rintro rfl
              have := getT_fun (S8c.get N7.out) S8b
              simp only [Nd.mk.injEq, List.cons.injEq, and_true, true_and] at this
              exact htr'.out this.2
            clear p8 e8 ht8 hf8 S8a S8b S8c
            go_wp2_with fail
            refine (awake15_any _).mono ?_
            rintro e w9 ⟨rfl, hb9⟩
            have HB9 := Lib.hid (below_next (HF8.out.below (Nat.le_refl _)) (HF8.out.below (Nat.le_refl _)).size hb9)
            clear hb9
            go_wp2_with fail
            go_ret
            exact ⟨rfl, HB9.out⟩
theorem unlike_row {A0 A1 : Option Addr} {n0 n1 c0 c1 : Nat} (w : World) (h0 : ∃ L, RdRows w.heap.size w A0 n0 L ∧ ∀ xs ∈ L, Byt xs) (h1 : ∃ L, RdRows w.heap.size w A1 n1 L ∧ ∀ xs ∈ L, Byt xs) :
    Calls Try.prog 3 #[.slice A0 n0 c0, .slice A1 n1 c1] w fun e w' => e = .returned (.bool true) ∧ Below w.heap.size w w' := by
  obtain ⟨L, a, b⟩ := h0
  obtain ⟨M, c, d⟩ := h1
  exact unlike_walk w _ _ _ _ _ _ L M a c b d
end Go.Proofs.Ytbcicfgffjgpdaa
