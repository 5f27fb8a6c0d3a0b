/- KnowSecrets: the walk. No condition. -/
import Derived.Test.YtmaedahleenlgaaLaw03
import Derived.Test.YtmaedahleenlgaaRow03
import Derived.Test.YtmaedahleenlgaaTable03
import Derived.Test.YtmaedahleenlgaaPureAgain
import Derived.Test.YtmaedahleenlgaaLook
import Derived.Test.YtmaedahleenlgaaKnow6
import Derived.Test.YtmaedahleenlgaaSteps03R
import Derived.Deep.RegionHeldLaw
set_option linter.unusedVariables false
set_option linter.unusedSimpArgs false
namespace Go.Proofs.Ytmaedahleenlgaa
open Go Go.RowKit Go.WideMaps

theorem TabAt.is {B : Nat} {w : World} {tb : Nat} {T : List Nd} (h : TabAt B w (some ⟨tb, 0, none⟩) T) : IsTab B w tb T := by
  rcases h with ⟨h, _⟩ | ⟨tb', e, ht⟩
  · cases h
  · cases e; exact ht
theorem frm_setB {B g i : Nat} {w : World} {cur : Array Value} (hB : B ≤ g) (hg : w.heap[g]? = some (.cells cur 4 (0, 0))) (v : Value) : Frm mndO B w (w.setCell ⟨g, i, none⟩ v) :=
  ⟨rfl, rfl, rfl, by simp [World.setCell], fun k o hk hc => by
    by_cases e : k = g
    · subst e
      rw [hg] at hk; cases hk
      rcases hc with h | h
      · omega
      · cases h
    · exact (mblk_other w v e).trans hk⟩
theorem knB_no {T : List Nd} (hw : WfT T) {j : Nat} (hj : j < T.length) : knB T (fun _ => False) false ((j : Int) + 1) = !secB T ((j : Int) + 1) := by
  have h := none_can hw (getT_at (T := T) hj)
  cases e : secB T ((j : Int) + 1) with
  | true =>
    cases e2 : knB T (fun _ => False) false ((j : Int) + 1) with
    | false => rfl
    | true => exact absurd (secB_true.1 e) (h.1 (knB_true.1 e2))
  | false => exact knB_true.2 (h.2 fun q => by rw [secB_true.2 q] at e; cases e)
theorem knL_no {T : List Nd} (hw : WfT T) : knL T (fun _ => False) = [] := by
  unfold knL
  refine List.filter_eq_nil_iff.2 fun x _ h => none_fol hw x (knB_true.1 h)
theorem any_take {f : Int → Bool} {l : List Int} {k : Nat} (h : k < l.length) : (l.take (k + 1)).any f = ((l.take k).any f || f (nth l k)) := by
  rw [take_nth_succ h, List.any_append]; simp
/-- The row of secrets, up to j. -/
def SecI (T : List Nd) (R : List Bool) (j : Nat) : Prop := R.length = T.length + 1 ∧ ∀ q : Int, 1 ≤ q → q ≤ j → bget R q = secB T q
theorem bget_setAt (l : List Bool) (j : Nat) (b : Bool) (q : Int) (hq : 0 ≤ q) (hj : j < l.length) : bget (l.set j b) q = if q = j then b else bget l q := by
  unfold bget
  simp only [List.getD_eq_getElem?_getD, List.getElem?_set]
  by_cases e : q = j
  · subst e; simp [hj]
  · rw [if_neg (by omega), if_neg e]
/-- Within the round of term j + 1: its parts up to k are looked at. -/
def SecK (T : List Nd) (R R' : List Bool) (j : Nat) (n : Nd) (k : Nat) : Prop := R'.length = T.length + 1 ∧ (∀ q : Int, 0 ≤ q → q ≠ (j : Int) + 1 → bget R' q = bget R q) ∧ bget R' ((j : Int) + 1) = (decide (n.kind = 2) || (n.parts.take k).any (secPart R ((j : Int) + 1)))
theorem SecK.zero {T : List Nd} {R : List Bool} {j : Nat} (hl : R.length = T.length + 1) (hj : j < T.length) (n : Nd) : SecK T R (R.set (j + 1) (n.kind == 2)) j n 0 := by
  refine ⟨by simp [hl], fun q h0 hq => ?_, ?_⟩
  · rw [bget_setAt _ _ _ _ h0 (by omega), if_neg (by omega)]
  · rw [bget_setAt _ _ _ _ (by omega) (by omega), if_pos (by omega)]
    simp only [List.take_zero, List.any_nil, Bool.or_false]
    by_cases e : n.kind = 2 <;> simp [e]
theorem SecK.succ {T : List Nd} (hw : WfT T) {R R' : List Bool} {j k : Nat} {n : Nd} (hj : T[j]? = some n) (h : SecK T R R' j n k) (hk : k < n.parts.length) {b : Bool} (hb : b = (bget R' ((j : Int) + 1) || bget R' (nth n.parts k))) : SecK T R (R'.set (j + 1) b) j n (k + 1) := by
  have hjl : j < T.length := (List.getElem?_eq_some_iff.1 hj).1
  have hr := (hw.good j _ hj).range (nth n.parts k) (nth_mem hk)
  refine ⟨by simp [h.1], fun q h0 hq => ?_, ?_⟩
  · rw [bget_setAt _ _ _ _ h0 (by have := h.1; omega), if_neg (by omega)]
    exact h.2.1 q h0 hq
  · rw [bget_setAt _ _ _ _ (by omega) (by have := h.1; omega), if_pos (by omega), hb, h.2.2, any_take hk, h.2.1 _ (by omega) (by omega)]
    have : secPart R ((j : Int) + 1) (nth n.parts k) = bget R (nth n.parts k) := by
      unfold secPart
      rw [decide_eq_true (show 0 < nth n.parts k by omega), decide_eq_true (show nth n.parts k < (j : Int) + 1 by omega)]
      rfl
    rw [this, Bool.or_assoc]
theorem SecK.done {T : List Nd} (hw : WfT T) {R R' : List Bool} {j : Nat} {n : Nd} (hj : T[j]? = some n) (hR : SecI T R j) (h : SecK T R R' j n n.parts.length) : SecI T R' (j + 1) ∧ bget R' ((j : Int) + 1) = secB T ((j : Int) + 1) := by
  have hjl : j < T.length := (List.getElem?_eq_some_iff.1 hj).1
  have e : T[j] = n := by rw [List.getElem?_eq_getElem hjl] at hj; exact Option.some.inj hj
  have key : bget R' ((j : Int) + 1) = secB T ((j : Int) + 1) := by
    rw [h.2.2, List.take_length, ← secB_row hw hjl hR.2, e]
  refine ⟨⟨h.1, fun q h1 h2 => ?_⟩, key⟩
  by_cases eq : q = (j : Int) + 1
  · rw [eq]; exact key
  · rw [h.2.1 q (by omega) eq]
    exact hR.2 q h1 (by omega)
set_option maxHeartbeats 6400000 in
set_option maxRecDepth 100000 in
theorem secrets_any (A : Option Addr) (n c : Nat) (S : List Sp3) (w : World) (h : SpsAt3 w.heap.size w A n S) :
    Calls Try.prog 4 #[.slice A n c] w (AwakePost w) := by
  have HS := Lib.hid h
  clear h
  go_enter Try.func4, Try.ntmps4
  go_wp2_with fail
  refine (light_any A n c S none 0 0 w w.heap.size (Nat.le_refl _) HS.out (Nat.le_refl _) (by omega)).mono ?_
  rintro e w1 ⟨rfl, b, rfl, hb⟩
  have HLb := Lib.hid hb
  clear hb
  cases b with
  | false =>
    go_wp2_with fail
    go_ret
    exact ⟨rfl, Below.refl _ _⟩
  | true =>
  have HL := Lib.hid (HLb.out rfl).1
  clear HLb
  go_wp2_with fail
  refine (table_any A n c S w1 w1.heap.size (Nat.le_refl _) HS.out HL.out).mono ?_
  rintro e w2 ⟨tb, T, rfl, ht2, hb2⟩
  have HT2 := Lib.hid ht2
  have HB2 := Lib.hid hb2
  have HW := Lib.hid ht2.1
  have hT := ht2.1.len
  clear ht2 hb2 HS HL
  go_wp2_with fail
  refine (knew_any w1.heap.size (some ⟨tb, 0, none⟩) w2 HB2.out.size).mono ?_
  rintro e w3 ⟨rfl, hm3, hb3⟩
  have HT3 : Hid (TabAt w1.heap.size w3 (some ⟨tb, 0, none⟩) T) := Lib.hid (.inr ⟨tb, rfl, HT2.out.below hb3⟩)
  have HB3 := Lib.hid (HB2.out.trans (hb3.mono HB2.out.size))
  have hq3 := hm3.lt
  have HM3 := Lib.hid (MindV.new HW.out hm3)
  clear hm3 hb3
  go_wp2_with fail
  refine (ksize_any w3 HT3.out).mono ?_
  rintro e w3' ⟨rfl, rfl⟩
  obtain ⟨w4, hmk, hown, hb4⟩ := run_make_bools w3'.heap.size w3' (T.length + 1) (by omega) (Nat.le_refl _)
  have hmk' : (Instr.makeSlice 39 (.int .i64 ((T.length : Int) + 1)) (.int .i64 ((T.length : Int) + 1))).run Try.prog w3' = .ok (.slice (some ⟨w3'.heap.size, 0, none⟩) (T.length + 1) (T.length + 1)) w4 := hmk
  have HT4 := Lib.hid (HT3.out.below hb4)
  have HB4 := Lib.hid (HB3.out.trans (hb4.mono HB3.out.size))
  have HM4 := Lib.hid (HM3.out.below hb4)
  have HO4 := Lib.hid hown
  have hg4 : w3'.heap.size < w4.heap.size := (hown.lt _ rfl).2
  have HD4 : Hid (∀ k, mS w2.heap.size (.slice none 0 0) (.slice none 0 0) k → k ≠ w3'.heap.size) := fun k q => by
    rcases q with e | e | e
    · omega
    · cases e
    · cases e
  have HI4 : Hid (SecI T (List.replicate (T.length + 1) false) 0) := ⟨by simp, fun q h1 h2 => by omega⟩
  clear hmk hown hb4
  go_wp2_with fail
  go_loopw [6] (fun v wr => ∃ (j : Nat) (x1 x2 : Value) (R : List Bool), j ≤ T.length ∧ v = .int .i64 ((j : Int) + 1) ∧ w3'.heap.size < wr.heap.size ∧ Hid (TabAt w1.heap.size wr (some ⟨tb, 0, none⟩) T) ∧ Hid (MindV w1.heap.size wr w2.heap.size (some ⟨tb, 0, none⟩) x1 x2 T (fun _ => False)) ∧ Hid (∀ k, mS w2.heap.size x1 x2 k → k ≠ w3'.heap.size) ∧ Hid (OwnB wr w3'.heap.size (.slice (some ⟨w3'.heap.size, 0, none⟩) (T.length + 1) (T.length + 1)) R) ∧ Hid (SecI T R j) ∧ Hid (Below w1.heap.size w1 wr)) (fun v _ => T.length + 1 - (intOf v).toNat)
  case atStart => exact ⟨0, _, _, _, Nat.zero_le _, rfl, hg4, HT4, HM4, HD4, HO4, HI4, HB4⟩
  case round =>
    obtain ⟨j, x1, x2, R, hj, rfl, hgs, HT, HM, HD, HO, HI, HB⟩ := hrel
    by_cases hlt : j < T.length
    · have hle : (j : Int) + 1 ≤ (T.length : Int) := by omega
      go_wp2_with fail
      refine (ksize_any wr HT.out).mono ?_
      rintro e w' ⟨rfl, rfl⟩
      obtain ⟨nd, hnd⟩ : ∃ nd, T[j]? = some nd := ⟨_, List.getElem?_eq_getElem hlt⟩
      have HN := Lib.hid hnd
      have HG : Hid (getT T ((j : Int) + 1) = some nd) := by show _ = _; rw [getT_nat]; exact hnd
      clear hnd
      go_wp2_with fail
      refine (look_node ((j : Int) + 1) nd w' HT.out.is HG.out).mono ?_
      rintro e wa ⟨Ap, cp, rfl, hop, hba⟩
      have HTa := Lib.hid (HT.out.below hba)
      have HMa := Lib.hid (HM.out.below hba)
      have HOa := Lib.hid (HO.out.below hba)
      have HBa := Lib.hid (HB.out.trans (hba.mono HB.out.size))
      have HP := Lib.hid (hop.rds (B' := 0))
      have hsa := hba.size
      clear HT HM HO HB hop hba
      obtain ⟨wb, hwb⟩ : ∃ wb, wb = wa.alloc (.cells #[.int .i64 nd.kind, .string nd.text, .slice Ap nd.parts.length cp] 49) := ⟨_, rfl⟩
      have hbb : Below wa.heap.size wa wb := by rw [hwb]; exact below_new _
      have hxb : wb.heap[wa.heap.size]? = some (.cells #[.int .i64 nd.kind, .string nd.text, .slice Ap nd.parts.length cp] 49 (0, 0)) := by rw [hwb]; exact heap_alloc_new wa _
      have hol := HOa.out.below hbb
      have hsR := HI.out.1
      obtain ⟨g', cap', e1, -, q3, -, -, q6, q7, q8⟩ := hol.form (by omega)
      simp only [Value.slice.injEq, Option.some.injEq, Addr.mk.injEq] at e1
      obtain ⟨⟨rfl, -, -⟩, -, -⟩ := e1
      obtain ⟨cur, hty⟩ := hol.type _ rfl
      have c1 := q6 (j + 1) (by omega)
      have c2 := q7 (j + 1)
      obtain ⟨b0, hb0⟩ : ∃ b0, b0 = (nd.kind == 2) := ⟨_, rfl⟩
      have hoc := q8 (j + 1) b0 (by omega)
      obtain ⟨wc, hwc⟩ : ∃ wc, wc = wb.setCell ⟨w3'.heap.size, j + 1, none⟩ (.bool b0) := ⟨_, rfl⟩
      have hfc : Frm mndO w1.heap.size wb wc := by rw [hwc]; exact frm_setB (by have := HB3.out.size; omega) hty _
      have HTc := Lib.hid ((HTa.out.below hbb).mnd hfc)
      have HMc := Lib.hid (MindV.keep (w' := wc) (HMa.out.below hbb) fun k hk => by rw [hwc]; exact mblk_other wb _ (HD.out k hk))
      have HBc := Lib.hid ((HBa.out.trans (hbb.mono HBa.out.size)).trans (hfc.below (Nat.le_trans HBa.out.size hbb.size)))
      have HPc := Lib.hid ((HP.out.below hbb).frm (B := 0) ((hfc.weak (Nat.zero_le _)).mono mndO_sp))
      have HOc : Hid (OwnB wc w3'.heap.size (.slice (some ⟨w3'.heap.size, 0, none⟩) (T.length + 1) (T.length + 1)) (R.set (j + 1) b0)) := by rw [hwc]; exact hoc
      have hsc : w3'.heap.size < wc.heap.size := by have := hfc.size; omega
      have HKc : Hid (SecK T R (R.set (j + 1) b0) j nd 0) := by rw [hb0]; exact .zero hsR hlt nd
      have hxc : wc.heap[wa.heap.size]? = some (.cells #[.int .i64 nd.kind, .string nd.text, .slice Ap nd.parts.length cp] 49 (0, 0)) := by rw [hwc]; exact (mblk_other wb _ (by omega)).trans hxb
      have HXc := Lib.hid hxc
      have h10 : (0 : Int) ≤ (j : Int) + 1 := by omega
      have h11 : (j : Int) + 1 < (T.length : Int) + 1 := by omega
      have h12 : ((j : Int) + 1).toNat = j + 1 := by omega
      rw [hwb] at c1 c2
      clear hbb hxb hol q6 q7 q8 hty hoc hfc hxc HTa HMa HOa HBa HP hsR
      go_wp2_with fail
      rw [← hwb, ← hb0, ← hwc]
      clear hwb hwc hb0
      go_loopw [9] (fun v wr => ∃ (k : Nat) (R' : List Bool), k ≤ nd.parts.length ∧ v = .int .i64 k ∧ w3'.heap.size < wr.heap.size ∧ Hid (TabAt w1.heap.size wr (some ⟨tb, 0, none⟩) T) ∧ Hid (MindV w1.heap.size wr w2.heap.size (some ⟨tb, 0, none⟩) x1 x2 T (fun _ => False)) ∧ Hid (OwnB wr w3'.heap.size (.slice (some ⟨w3'.heap.size, 0, none⟩) (T.length + 1) (T.length + 1)) R') ∧ Hid (SecK T R R' j nd k) ∧ Hid (Below w1.heap.size w1 wr) ∧ Hid (Rds 0 wr .i64 Ap nd.parts.length cp nd.parts) ∧ Hid (wr.heap[wa.heap.size]? = some (.cells #[.int .i64 nd.kind, .string nd.text, .slice Ap nd.parts.length cp] 49 (0, 0)))) (fun v _ => nd.parts.length - (intOf v).toNat)
      case atStart => exact ⟨0, _, Nat.zero_le _, rfl, hsc, HTc, HMc, HOc, HKc, HBc, HPc, HXc⟩
      case round =>
        obtain ⟨k, R', hk, rfl, hgz, HTz, HMz, HOz, HKz, HBz, HPz, HXz⟩ := hrel
        have y2 : wr.cell? ⟨wa.heap.size, 2, none⟩ = some (.slice Ap nd.parts.length cp) := by rw [cell_of_row wr _ 2 _ _ _ HXz.out]; rfl
        have hcz := HPz.out.cap
        have hmz := HPz.out.max
        by_cases hkl : k < nd.parts.length
        · have hsR := HKz.out.1
          obtain ⟨bP, oP, rfl, hcx⟩ := RdI.at_ HPz.out.cell (by omega)
          have p0 := hcx k hkl
          have hpr := (HW.out.good j _ HN.out).range (nth nd.parts k) (nth_mem hkl)
          obtain ⟨pn, hpn⟩ : ∃ pn : Nat, nth nd.parts k = pn := ⟨(nth nd.parts k).toNat, by omega⟩
          rw [hpn] at hpr p0
          obtain ⟨g', cap', e1, -, q3, -, -, q6, q7, q8⟩ := HOz.out.form (by omega)
          simp only [Value.slice.injEq, Option.some.injEq, Addr.mk.injEq] at e1
          obtain ⟨⟨rfl, -, -⟩, -, -⟩ := e1
          obtain ⟨cur, hty⟩ := HOz.out.type _ rfl
          have c1 := q6 (j + 1) (by omega)
          have c3 := q6 pn (by omega)
          have c2 := q7 (j + 1)
          obtain ⟨b1, hb1⟩ : ∃ b1, b1 = R'.getD (j + 1) false := ⟨_, rfl⟩
          obtain ⟨b2, hb2⟩ : ∃ b2, b2 = R'.getD pn false := ⟨_, rfl⟩
          rw [← hb1] at c1
          rw [← hb2] at c3
          obtain ⟨b0, hb0⟩ : ∃ b0, b0 = (b1 || b2) := ⟨_, rfl⟩
          have hoc := q8 (j + 1) b0 (by omega)
          obtain ⟨wc, hwc⟩ : ∃ wc, wc = wr.setCell ⟨w3'.heap.size, j + 1, none⟩ (.bool b0) := ⟨_, rfl⟩
          have hfc : Frm mndO w1.heap.size wr wc := by rw [hwc]; exact frm_setB (by have := HB3.out.size; omega) hty _
          have HTc := Lib.hid (HTz.out.mnd hfc)
          have HMc := Lib.hid (MindV.keep (w' := wc) HMz.out fun k hk => by rw [hwc]; exact mblk_other wr _ (HD.out k hk))
          have HBc := Lib.hid (HBz.out.trans (hfc.below HBz.out.size))
          have HPc := Lib.hid (HPz.out.frm (B := 0) ((hfc.weak (Nat.zero_le _)).mono mndO_sp))
          have HOc : Hid (OwnB wc w3'.heap.size (.slice (some ⟨w3'.heap.size, 0, none⟩) (T.length + 1) (T.length + 1)) (R'.set (j + 1) b0)) := by rw [hwc]; exact hoc
          have hsc : w3'.heap.size < wc.heap.size := by have := hfc.size; omega
          have HKc : Hid (SecK T R (R'.set (j + 1) b0) j nd (k + 1)) := HKz.out.succ HW.out HN.out hkl (by rw [hb0, hb1, hb2, hpn]; rfl)
          have hneb : wa.heap.size ≠ w3'.heap.size := by omega
          have hxc : wc.heap[wa.heap.size]? = some (.cells #[.int .i64 nd.kind, .string nd.text, .slice (some ⟨bP, oP, none⟩) nd.parts.length cp] 49 (0, 0)) := by rw [hwc]; exact (mblk_other wr _ hneb).trans HXz.out
          have HXc := Lib.hid hxc
          have h20 : (0 : Int) < (pn : Int) := by omega
          have h21 : (pn : Int) < (j : Int) + 1 := by omega
          have h22 : (pn : Int) < (T.length : Int) + 1 := by omega
          clear q6 q7 q8 hty hoc hfc hxc HTz HMz HOz HBz HPz hsR hcx hpr hpn HKz HXz
          clear hb1 hb2
          cases b1 with
          | true =>
            simp only [Bool.true_or] at hb0
            subst hb0
            go_wp2_with fail
            rw [← hwc]
            clear hwc
            go_roundw
            case rel => exact ⟨k + 1, _, by omega, by go_num, hsc, HTc, HMc, HOc, HKc, HBc, HPc, HXc⟩
            case measure => simp [intOf]; omega
          | false =>
            simp only [Bool.false_or] at hb0
            subst hb0
            go_wp2_with fail
            rw [← hwc]
            clear hwc
            go_roundw
            case rel => exact ⟨k + 1, _, by omega, by go_num, hsc, HTc, HMc, HOc, HKc, HBc, HPc, HXc⟩
            case measure => simp [intOf]; omega
        · obtain rfl : k = nd.parts.length := by omega
          obtain ⟨HJ, hbv⟩ := HKz.out.done HW.out HN.out HI.out
          have HJ' := Lib.hid HJ
          obtain ⟨g', cap', e1, -, q3, -, -, q6, q7, q8⟩ := HOz.out.form (by have := HKz.out.1; omega)
          simp only [Value.slice.injEq, Option.some.injEq, Addr.mk.injEq] at e1
          obtain ⟨⟨rfl, -, -⟩, -, -⟩ := e1
          have c1 := q6 (j + 1) (by have := HKz.out.1; omega)
          have hbn := knB_no HW.out hlt
          obtain ⟨bs, hbs⟩ : ∃ bs, bs = secB T ((j : Int) + 1) := ⟨_, rfl⟩
          have e9 : R'.getD (j + 1) false = bs := by rw [hbs, ← hbv]; rfl
          rw [e9] at c1
          rw [← hbs] at hbn
          have hne9 : ((!bs) == bs) = false := by cases bs <;> rfl
          have hd : Below wr.heap.size wr wr.drew := (Below.refl _ _).drew
          have HMd := Lib.hid (HMz.out.below hd)
          have HTd := Lib.hid (HTz.out.below hd)
          have HOd := Lib.hid (HOz.out.below hd)
          have HBd := Lib.hid (HBz.out.trans (hd.mono HBz.out.size))
          have key := vcan_any ((j : Int) + 1) (by omega) (wr.drew) HMd.out HTd.out
          rw [hbn] at key
          have KEY := Lib.hid key
          clear hd hbn hbv hbs e9 key HJ q6 q7 q8 HTz HMz HOz HBz HPz HXz HKz hcz hmz HXc HKc HOc HPc HBc HMc HTc
          go_wp2_with fail
          go_region_held_law (fun w' => w'.cell? ⟨w3'.heap.size, j + 1, none⟩ = some (.bool bs)) (first | exact z1 | go_keep) ((first
            | (go_at_call 17
               refine KEY.out.mono ?_
               rintro e w6 ⟨rfl, y1, y2', hk6⟩
               have z1 : w6.cell? ⟨w3'.heap.size, j + 1, none⟩ = some (.bool bs) := (World.cell?_of_block (hk6.fr.block _ hgz (fun q => HD.out _ q rfl))).trans c1
               have HK6 := Lib.hid hk6
               clear hk6)))
          all_goals
            have HT6 := Lib.hid (HTd.out.mnd (HK6.out.frm HMd.out))
            have HB6 := Lib.hid (HBd.out.trans (HK6.out.below HMd.out))
            have HM6 := Lib.hid HK6.out.m
            have HO6 := Lib.hid (HOd.out.same (w' := w6) fun g e => by
              cases e
              exact HK6.out.fr.block _ hgz (fun q => HD.out _ q rfl))
            have hg6 : w3'.heap.size < w6.heap.size := Nat.lt_of_lt_of_le hgz HK6.out.fr.size
            have HD6 : Hid (∀ k, mS w2.heap.size y1 y2' k → k ≠ w3'.heap.size) := fun k q => by
              rcases q with e | e | e
              · exact HD.out k (.inl e)
              · rcases HK6.out.o1 k e with q | q
                · exact HD.out k (.inr (.inl q))
                · have : wr.heap.size ≤ k := q; omega
              · rcases HK6.out.o2 k e with q | q
                · exact HD.out k (.inr (.inr q))
                · have : wr.heap.size ≤ k := q; omega
            clear HK6 HTd HBd HMd HOd HD KEY z1 c1
            go_wp2_with fail
            go_roundw
            case rel => exact ⟨j + 1, _, _, _, by omega, by go_num, hg6, HT6, HM6, HD6, HO6, HJ', HB6⟩
            case measure => simp [intOf]; omega
    · obtain rfl : j = T.length := by omega
      have hnle : ¬ ((T.length : Int) + 1 ≤ (T.length : Int)) := by omega
      go_wp2_with fail
      refine (ksize_any wr HT.out).mono ?_
      rintro e w' ⟨rfl, rfl⟩
      go_wp2_with fail
      have key := vknows_any w' HM.out HT.out
      rw [knL_no HW.out] at key
      refine key.mono ?_
      clear key
      rintro e wb ⟨Ab, cb, rfl, hob, y1, y2, hk⟩
      have HBb := Lib.hid (HB.out.trans (hk.below HM.out))
      have hcb := (hob.rds (B' := 0)).cap
      clear hk hob
      go_wp2_with fail
      refine (awake03_any wb).mono ?_
      rintro e wz ⟨rfl, hbz⟩
      have HBz := Lib.hid (HBb.out.trans (hbz.mono HBb.out.size))
      go_wp2_with fail
      go_ret
      exact ⟨rfl, HBz.out⟩
theorem secrets_row {A : Option Addr} {n c : Nat} (w : World) (h0 : ∃ S, SpsAt3 w.heap.size w A n S) : Calls Try.prog 4 #[.slice A n c] w (AwakePost w) := by
  obtain ⟨S, hS⟩ := h0
  exact secrets_any A n c S w hS
end Go.Proofs.Ytmaedahleenlgaa
