/- KnowAgain: the walk. No condition. -/
import Derived.Test.YtmaedahleenlgaaLaw03
import Derived.Test.YtmaedahleenlgaaRow03
import Derived.Test.YtmaedahleenlgaaTable03
import Derived.Test.YtmaedahleenlgaaPureAgain
import Derived.Test.YtmaedahleenlgaaSteps03R
set_option linter.unusedVariables false
set_option linter.unusedSimpArgs false
namespace Go.Proofs.Ytmaedahleenlgaa
open Go Go.RowKit Go.WideMaps

theorem mem_knL {T : List Nd} (hw : WfT T) {S : Int → Prop} {x : Int} : x ∈ knL T S ↔ Kn T S true x := by
  unfold knL
  rw [List.mem_filter, mem_range1, knB_true]
  exact ⟨fun h => h.2, fun h => ⟨h.there hw, h⟩⟩
theorem knL_len {T : List Nd} {S : Int → Prop} : (knL T S).length ≤ T.length := by
  unfold knL
  exact Nat.le_trans (List.length_filter_le _ _) (by simp)
theorem knL_same {T : List Nd} {S S' : Int → Prop} (h : ∀ x, Kn T S true x ↔ Kn T S' true x) : knL T S = knL T S' := by
  unfold knL
  exact List.filter_congr fun x _ => knB_eq (h x)
theorem knL_again {T : List Nd} (hw : WfT T) (l : List Int) : knL T (inT T (knL T (inT T l))) = knL T (inT T l) := by
  refine knL_same fun x => fol_again (fun h n hg q => ⟨(mem_knL hw).2 (.base hg q), q.2⟩) (fun h n hg q => (mem_knL hw).1 q.1) true x
noncomputable def canK (T : List Nd) (S : Int → Prop) (k : Nat) : List Int := ((List.range k).map fun i : Nat => (i : Int) + 1).filter (knB T S false)
/-- A row of whole numbers of the call's own is none of a mind's blocks. -/
theorem MindV.notOwn {B B' : Nat} {w : World} {mb : Nat} {tp : Option Addr} {v1 v2 v : Value} {T : List Nd} {S : Int → Prop} {xs : List Int} (hm : MindV B w mb tp v1 v2 T S) (ho : OwnI w B' .i64 v xs) : ∀ k, mS mb v1 v2 k → v.ownBlock ≠ some k := by
  intro k hk e
  have hn : ∃ cur t, w.heap[k]? = some (.cells cur t (0, 0)) ∧ spT t = false := by
    rcases ho with ⟨_, hv⟩ | ⟨g', cap, cur, T, rfl, _, hg, hT, _⟩
    · rw [hv] at e; cases e
    · simp only [Value.ownBlock, Option.some.injEq] at e
      subst e
      exact ⟨cur, T, hg, hT⟩
  obtain ⟨cur, t, hg, ht⟩ := hn
  obtain ⟨F, C, size, fresh, hma, -⟩ := hm
  rcases hk with rfl | q | q
  · rw [hma.blk] at hg; cases hg; revert ht; decide
  · obtain ⟨c2, h2⟩ := hma.f.type k q
    rw [h2] at hg; cases hg; revert ht; decide
  · obtain ⟨c2, h2⟩ := hma.c.type k q
    rw [h2] at hg; cases hg; revert ht; decide
/-- Two minds over one table: a call of one leaves the other. -/
theorem KStep.two {B : Nat} {w w' : World} {mb nb : Nat} {tp : Option Addr} {v1 v2 u1 u2 y1 y2 : Value} {T T0 : List Nd} {S S' : Int → Prop} (h : KStep B w mb tp v1 v2 u1 u2 T S w') (hn : MindV B w nb tp y1 y2 T0 S') (hd : ∀ k, mS mb v1 v2 k → ¬ mS nb y1 y2 k) :
    MindV B w' nb tp y1 y2 T0 S' ∧ ∀ k, mS mb u1 u2 k → ¬ mS nb y1 y2 k := by
  refine ⟨hn.keep fun k hk => h.fr.block k (hn.sub k hk).2 fun q => hd k q hk, fun k q hk => ?_⟩
  have hlt := (hn.sub k hk).2
  rcases q with e | e | e
  · exact hd k (.inl e) hk
  · rcases h.o1 k e with q | q
    · exact hd k (.inr (.inl q)) hk
    · omega
  · rcases h.o2 k e with q | q
    · exact hd k (.inr (.inr q)) hk
    · omega
theorem can_canK {T : List Nd} (hw : WfT T) (S : Int → Prop) (x : Int) : knB T (inT T (canK T S T.length)) false x = knB T S false x := by
  refine knB_eq (can_again hw (fun h q => ?_) (fun h q => ?_) x)
  · have := q.1
    unfold canK at this
    exact knB_true.1 (List.mem_filter.1 this).2
  · have hr := q.there hw
    refine ⟨?_, hr⟩
    unfold canK
    exact List.mem_filter.2 ⟨mem_range1.2 hr, knB_true.2 q⟩
set_option maxHeartbeats 6400000 in
set_option maxRecDepth 100000 in
theorem again_any {B' : Nat} (A : Option Addr) (n c : Nat) (S : List Sp3) (A2 : Option Addr) (n2 c2 : Nat) (base : List Int) (w : World) (h : SpsAt3 w.heap.size w A n S) (hr : Rds B' w .i64 A2 n2 c2 base) :
    Calls Try.prog 7 #[.slice A n c, .slice A2 n2 c2] w (AwakePost w) := by
  have HS := Lib.hid h
  have HR := Lib.hid hr
  have hl := Lib.hid hr.len
  have hcap := hr.cap
  have hmax := hr.max
  clear h hr
  go_enter Try.func7, Try.ntmps7
  go_wp2_with fail
  refine (light_any A n c S A2 n2 c2 w w.heap.size (Nat.le_refl _) HS.out hcap hmax).mono ?_
  rintro e w1 ⟨rfl, b, rfl, hb⟩
  have HLb := Lib.hid hb
  clear hb
  cases b with
  | false =>
    go_wp2_with fail
    go_ret
    exact ⟨rfl, Below.refl _ _⟩
  | true =>
  have hL := HLb.out rfl
  have hn50 := hL.2
  have HL := Lib.hid hL.1
  clear hL
  go_wp2_with fail
  refine (table_any A n c S w1 w1.heap.size (Nat.le_refl _) HS.out HL.out).mono ?_
  rintro e w2 ⟨tb, T, rfl, ht2, hb2⟩
  have HT2 := Lib.hid ht2
  have HB2 := Lib.hid hb2
  have HW := Lib.hid ht2.1
  have hT := ht2.1.len
  clear ht2 hb2
  go_wp2_with fail
  refine (terms3_any A2 n2 c2 base w2 (HR.out.below HB2.out) (by omega)).mono ?_
  rintro e w3 ⟨A3, c3, rfl, ho3, hb3⟩
  have HT3 := Lib.hid (HT2.out.below hb3)
  have HB3 := Lib.hid (HB2.out.trans (hb3.mono HB2.out.size))
  have hr3 := ho3.rds (B' := 0)
  have HR3 : Hid (Rds 0 w3 .i64 A3 base.length c3 base) := by rw [hl.out]; exact hr3
  have hle3 := hr3.cap
  have hm3 := hr3.max
  clear ho3 hb3 hr3
  obtain ⟨K, hK⟩ : ∃ K, K = knL T (inT T base) := ⟨_, rfl⟩
  have hKl : K.length ≤ 65536 := by rw [hK]; exact Nat.le_trans knL_len hT
  have HK := Lib.hid hK
  have key := closed_any (tp := some ⟨tb, 0, none⟩) base A3 c3 w3 (.inr ⟨tb, rfl, HT3.out⟩) HB3.out.size HR3.out (by have := hl.out; omega)
  rw [hl.out, ← hK] at key
  go_wp2_with fail
  refine key.mono ?_
  clear key
  rintro e w4 ⟨A4, c4, rfl, ho4, hb4⟩
  have HT4 := Lib.hid (HT3.out.below hb4)
  have HB4 := Lib.hid (HB3.out.trans (hb4.mono HB3.out.size))
  have HR34 := Lib.hid (HR3.out.below hb4)
  have HR4 := Lib.hid (ho4.rds (B' := 0))
  have hle4 := HR4.out.cap
  have hm4 := HR4.out.max
  clear ho4 hb4
  have key := closed_any (tp := some ⟨tb, 0, none⟩) K A4 c4 w4 (.inr ⟨tb, rfl, HT4.out⟩) HB4.out.size HR4.out (by omega)
  have hK2 : knL T (inT T K) = K := by rw [hK]; exact knL_again HW.out base
  rw [hK2] at key
  clear hK hK2
  go_wp2_with fail
  refine key.mono ?_
  clear key
  rintro e w5 ⟨A5, c5, rfl, ho5, hb5⟩
  have HT5 := Lib.hid (HT4.out.below hb5)
  have HB5 := Lib.hid (HB4.out.trans (hb5.mono HB4.out.size))
  have HR35 := Lib.hid (HR34.out.below hb5)
  have HR45 := Lib.hid (HR4.out.below hb5)
  have HR5 := Lib.hid (ho5.rds (B' := 0))
  have hle5 := HR5.out.cap
  have hm5 := HR5.out.max
  have hneq : ((K.length : Int) != (K.length : Int)) = false := by simp
  clear ho5 hb5
  go_wp2_with fail
  clear hneq
  go_loopw [9] (fun i wr => ∃ k : Nat, k ≤ K.length ∧ i = .int .i64 k ∧ ∃ q, wr = w5.drewN q) (fun i _ => K.length - (intOf i).toNat)
  case atStart => exact ⟨0, Nat.zero_le _, rfl, 0, rfl⟩
  case round =>
    obtain ⟨k, hk, rfl, q, rfl⟩ := hrel
    by_cases hlt : k < K.length
    · obtain ⟨b, o, rfl, hcx⟩ := RdI.at_ HR45.out.cell (by omega)
      obtain ⟨b', o', rfl, hcy⟩ := RdI.at_ HR5.out.cell (by omega)
      have g1 := hcx k hlt
      have g2 := hcy k hlt
      clear hcx hcy
      have hz' : (nth K k != nth K k) = false := by simp
      go_wp2
      go_quiet (fail)
      go_wp2
      go_roundw
      case rel => exact ⟨k + 1, by omega, by go_num, _, rfl⟩
      case measure => simp [intOf]; omega
    obtain rfl : k = K.length := by omega
    go_wp2_with fail
    have hd5 : Below w5.heap.size w5 (w5.drewN q) := below_drewN (Below.refl _ _) _
    have HT6 := Lib.hid (HT5.out.below hd5)
    have HB6 := Lib.hid (HB5.out.trans (hd5.mono HB5.out.size))
    have HR36 := Lib.hid (HR35.out.below hd5)
    generalize w5.drewN q = w6 at HT6 HB6 HR36 ⊢
    clear HT5 HB5 HR35 HR45 HR5 hd5 hlt hk
    refine (knew_any w1.heap.size (some ⟨tb, 0, none⟩) w6 HB6.out.size).mono ?_
    rintro e w7 ⟨rfl, hm7, hb7⟩
    have HM7 := Lib.hid (MindV.new HW.out hm7)
    have HT7 := Lib.hid (HT6.out.below hb7)
    have HB7 := Lib.hid (HB6.out.trans (hb7.mono HB6.out.size))
    have HB78 := Lib.hid hb7
    have HR37 := Lib.hid (HR36.out.below hb7)
    have hq7 := hm7.lt
    clear hm7 hb7
    go_wp2_with fail
    have HM8 := Lib.hid (HM7.out.below (below_new (.cells #[] 37)))
    have HT8 := Lib.hid (HT7.out.below (below_new (.cells #[] 37)))
    have HR38 := Lib.hid (HR37.out.below (below_new (.cells #[] 37)))
    have HB8 := Lib.hid (HB7.out.alloc HB7.out.size (.cells #[] 37))
    have HO8 := Lib.hid (OwnI.empty (w := w7) (k := .i64) (B := w7.heap.size) (t := 37) (Nat.le_refl _) sp_term)
    have hs8 : (w7.alloc (.cells #[] 37)).heap.size = w7.heap.size + 1 := by simp
    have key := vlearn_any base A3 c3 (w7.alloc (.cells #[] 37)) HM8.out (.inr ⟨tb, rfl, HT8.out⟩) HR38.out (by have := hl.out; omega)
    rw [hl.out] at key
    refine key.mono ?_
    clear key
    rintro e w9 ⟨rfl, u1, u2, hk9⟩
    have hf9 := hk9.frm HM8.out
    have HM9 := Lib.hid (hk9.m.iff (S' := inT T base) fun x => ⟨fun q => q.elim (fun f => f.elim) id, .inr⟩)
    have HO9 := Lib.hid (HO8.out.frm (hf9.mono mndO_sp))
    have HB9 := Lib.hid (HB8.out.trans (hk9.below HM8.out))
    clear hf9
    have hown9 := hk9.own (D := w6.heap.size) (by omega) (fun k q => by rcases q with e | e | e; exact Nat.le_of_eq e.symm; cases e; cases e)
    have HMB9 := Lib.hid hown9.2
    have hw79 : w7.heap.size ≤ w9.heap.size := by have := hk9.fr.size; rw [hs8] at this; omega
    have h68 : Below w6.heap.size w6 w9 := (HB78.out.alloc HB78.out.size _).trans hown9.1
    have HB69 := Lib.hid h68
    clear hown9 h68 hk9
    go_wp2_with fail
    go_loopw [11, 12] (fun v i wr => ∃ (j : Nat) (x1 x2 : Value), j ≤ T.length ∧ i = .int .i64 ((j : Int) + 1) ∧ w7.heap.size ≤ wr.heap.size ∧ Hid (OwnI wr w7.heap.size .i64 v (canK T (inT T base) j)) ∧ Hid (MindV w1.heap.size wr w6.heap.size (some ⟨tb, 0, none⟩) x1 x2 T (inT T base)) ∧ Hid (∀ k, mS w6.heap.size x1 x2 k → w6.heap.size ≤ k) ∧ Hid (Below w6.heap.size w6 wr)) (fun _ i _ => T.length + 1 - (intOf i).toNat)
    case atStart => exact ⟨0, u1, u2, Nat.zero_le _, rfl, hw79, HO9, HM9, HMB9, HB69⟩
    case round =>
      obtain ⟨j, x1, x2, hj, rfl, hw7, HO, HM, HMS, HBL⟩ := hrel
      have HT := Lib.hid (HT6.out.below HBL.out)
      by_cases hlt : j < T.length
      · have hle : (j : Int) + 1 ≤ (T.length : Int) := by omega
        go_wp2_with fail
        refine (ksize_any wr (.inr ⟨tb, rfl, HT.out⟩)).mono ?_
        rintro e w' ⟨rfl, rfl⟩
        go_wp2_with fail
        refine (vcan_any ((j : Int) + 1) (by omega) _ HM.out (.inr ⟨tb, rfl, HT.out⟩)).mono ?_
        rintro e wa ⟨rfl, y1, y2, hk⟩
        obtain ⟨bc, hbc⟩ : ∃ b, b = knB T (inT T base) false ((j : Int) + 1) := ⟨_, rfl⟩
        rw [← hbc]
        have hown := hk.own (D := w6.heap.size) HBL.out.size HMS.out
        have hw7a := Nat.le_trans hw7 hk.fr.size
        have HMSa := Lib.hid hown.2
        have HBLa := Lib.hid (HBL.out.trans hown.1)
        have HMa := Lib.hid hk.m
        have HOa := Lib.hid (HO.out.frm ((hk.frm HM.out).mono mndO_sp))
        have hsucc : canK T (inT T base) (j + 1) = canK T (inT T base) j ++ (if bc then [(j : Int) + 1] else []) := by
          rw [hbc]; unfold canK
          rw [List.range_succ, List.map_append, List.filter_append]
          congr 1
          simp only [List.map_cons, List.map_nil, List.filter_cons, List.filter_nil]
        have HSU := Lib.hid hsucc
        clear hown hk hsucc hbc HO HM HMS HBL HT
        cases bc with
        | false =>
          have HN : Hid (canK T (inT T base) (j + 1) = canK T (inT T base) j) := by show _ = _; have := HSU.out; simpa using this
          clear HSU
          go_wp2_with fail
          go_roundw
          case rel => exact ⟨j + 1, y1, y2, by omega, by go_num, hw7a, by rw [HN.out]; exact HOa, HMa, HMSa, HBLa⟩
          case measure => simp [intOf]; omega
        | true =>
          have HN : Hid (canK T (inT T base) (j + 1) = canK T (inT T base) j ++ [(j : Int) + 1]) := by show _ = _; have := HSU.out; simpa using this
          obtain ⟨L, hL⟩ : ∃ L, L = canK T (inT T base) j := ⟨_, rfl⟩
          have hLl : L.length ≤ 70000 := by
            rw [hL]; unfold canK
            refine Nat.le_trans (List.length_filter_le _ _) ?_
            simp; omega
          rw [← hL] at HN HOa
          clear HSU hL
          go_wp2_with (at_builtin; refine wp_app_term (ys := [(j : Int) + 1]) rfl _ _ rfl rfl rfl (HOa.out.below (below_new _)) (RdI.one_at _ .i64 _ _ rfl) rfl ?_ ?_ ?_)
          · first | omega | (simp; omega)
          · first | omega | (simp; omega)
          intro v' wb ho hg hb
          have hMb := HMa.out.below (below_new (.cells #[.int .i64 ((j : Int) + 1)] 37))
          have HMb : Hid (MindV w1.heap.size wb w6.heap.size (some ⟨tb, 0, none⟩) y1 y2 T (inT T base)) := hMb.keep fun k hk => hg.block k (hMb.sub k hk).2 fun e => hMb.notOwn (HOa.out.below (below_new _)) k hk e.symm
          have HOb := Lib.hid ho
          have hsb := hb.size
          have HBb : Hid (Below w6.heap.size w6 wb) := (HBLa.out.alloc HBLa.out.size _).trans (hb.mono (by omega))
          have hw7b : w7.heap.size ≤ wb.heap.size := by simp at hsb; omega
          clear ho hg hb hMb hsb
          go_wp2_with fail
          go_roundw
          case rel => exact ⟨j + 1, y1, y2, by omega, by go_num, hw7b, by rw [HN.out]; exact HOb, HMb, HMSa, HBb⟩
          case measure => simp [intOf]; omega
      · obtain rfl : j = T.length := by omega
        have hnle : ¬ ((T.length : Int) + 1 ≤ (T.length : Int)) := by omega
        go_wp2_with fail
        refine (ksize_any wr (.inr ⟨tb, rfl, HT.out⟩)).mono ?_
        rintro e w' ⟨rfl, rfl⟩
        go_wp2_with fail
        obtain ⟨L, hL⟩ : ∃ L, L = canK T (inT T base) T.length := ⟨_, rfl⟩
        have hLl : L.length ≤ 70000 := by
          rw [hL]; unfold canK
          refine Nat.le_trans (List.length_filter_le _ _) ?_
          simp; omega
        rw [← hL] at HO
        obtain ⟨Am, cm, em⟩ := HO.out.slice
        subst em
        have hrm := HO.out.rds (B' := 0)
        have hlm := hrm.cap
        have HRM := Lib.hid hrm
        have HLE := Lib.hid hL
        have HB16 : Hid (Below w1.heap.size w1 w') := HB6.out.trans (HBL.out.mono HB6.out.size)
        have hw6 := HBL.out.size
        clear hrm hL
        refine (knew_any w1.heap.size (some ⟨tb, 0, none⟩) w' HB16.out.size).mono ?_
        rintro e wd ⟨rfl, hmd, hbd⟩
        have HMd := Lib.hid (MindV.new HW.out hmd)
        have HTd := Lib.hid (HT.out.below hbd)
        have HBd := Lib.hid (HB16.out.trans (hbd.mono HB16.out.size))
        have HM1 := Lib.hid (HM.out.below hbd)
        have HMS1 : Hid (∀ k, mS w6.heap.size x1 x2 k → k < w'.heap.size) := fun k hk => (HM.out.sub k hk).2
        have HRd := Lib.hid (HRM.out.below hbd)
        have hsd := hbd.size
        clear hmd hbd
        go_wp2_with fail
        have hN8 : MindV w1.heap.size wd w'.heap.size (some ⟨tb, 0, none⟩) (.slice none 0 0) (.slice none 0 0) T (fun _ => False) := HMd.out
        have key := vlearn_any L Am cm wd HMd.out (.inr ⟨tb, rfl, HTd.out⟩) HRd.out (by omega)
        refine key.mono ?_
        clear key
        rintro e we ⟨rfl, z1, z2, hke⟩
        have hfe := hke.frm HMd.out
        have HTe : Hid (TabAt w1.heap.size we (some ⟨tb, 0, none⟩) T) := TabAt.mnd (.inr ⟨tb, rfl, HTd.out⟩) hfe
        have HNe : Hid (MindV w1.heap.size we w'.heap.size (some ⟨tb, 0, none⟩) z1 z2 T (inT T L)) := Lib.hid (hke.m.iff (S' := inT T L) fun x => ⟨fun q => q.elim (fun f => f.elim) id, .inr⟩)
        have hown := hke.own (D := w'.heap.size) hsd (fun k q => by rcases q with e | e | e; exact Nat.le_of_eq e.symm; cases e; cases e)
        have HMe := Lib.hid (HM1.out.keep fun k hk => hown.1.block k (HMS1.out k hk))
        have HDe : Hid (∀ k, mS w6.heap.size x1 x2 k → ¬ mS w'.heap.size z1 z2 k) := fun k hk q => by have := HMS1.out k hk; have := hown.2 k q; omega
        have HBe := Lib.hid (HBd.out.trans (hke.below HMd.out))
        have HC : Hid (∀ x : Int, knB T (inT T L) false x = knB T (inT T base) false x) := fun x => by rw [HLE.out]; exact can_canK HW.out _ x
        clear hfe hown hke HMd HTd HM1 HMS1 hN8 HLE HRd HBd HRM HT HM HMS HBL HO
        generalize w'.heap.size = nb at *
        go_wp2_with fail
        go_loopw [14] (fun i wr => ∃ (j : Nat) (x1 x2 y1 y2 : Value), j ≤ T.length ∧ i = .int .i64 ((j : Int) + 1) ∧ Hid (TabAt w1.heap.size wr (some ⟨tb, 0, none⟩) T) ∧ Hid (MindV w1.heap.size wr w6.heap.size (some ⟨tb, 0, none⟩) x1 x2 T (inT T base)) ∧ Hid (MindV w1.heap.size wr nb (some ⟨tb, 0, none⟩) y1 y2 T (inT T L)) ∧ Hid (∀ k, mS w6.heap.size x1 x2 k → ¬ mS nb y1 y2 k) ∧ Hid (Below w1.heap.size w1 wr)) (fun i _ => T.length + 1 - (intOf i).toNat)
        case atStart => exact ⟨0, x1, x2, z1, z2, Nat.zero_le _, rfl, HTe, HMe, HNe, HDe, HBe⟩
        case round =>
          obtain ⟨j, x1, x2, y1, y2, hj, rfl, HT, HM, HN, HD, HB⟩ := hrel
          by_cases hlt : j < T.length
          · have hle : (j : Int) + 1 ≤ (T.length : Int) := by omega
            go_wp2_with fail
            refine (ksize_any wr HT.out).mono ?_
            rintro e w' ⟨rfl, rfl⟩
            go_wp2_with fail
            refine (vcan_any ((j : Int) + 1) (by omega) _ HM.out HT.out).mono ?_
            rintro e wa ⟨rfl, u1, u2, hk⟩
            have h2 := hk.two HN.out HD.out
            have HNa := Lib.hid h2.1
            have HDa := Lib.hid h2.2
            have HTa := Lib.hid (HT.out.mnd (hk.frm HM.out))
            have HBa := Lib.hid (HB.out.trans (hk.below HM.out))
            have HMa := Lib.hid hk.m
            clear h2 hk HT HM HN HD HB
            go_wp2_with fail
            refine (vcan_any ((j : Int) + 1) (by omega) _ HNa.out HTa.out).mono ?_
            rintro e wb ⟨rfl, t1, t2, hk⟩
            rw [HC.out]
            have h2 := hk.two HMa.out (fun k q q' => HDa.out k q' q)
            have HMb := Lib.hid h2.1
            have HDb : Hid (∀ k, mS w6.heap.size u1 u2 k → ¬ mS nb t1 t2 k) := fun k q q' => h2.2 k q' q
            have HTb := Lib.hid (HTa.out.mnd (hk.frm HNa.out))
            have HBb := Lib.hid (HBa.out.trans (hk.below HNa.out))
            have HNb := Lib.hid hk.m
            clear h2 hk HTa HMa HNa HDa HBa
            have hz' : (knB T (inT T base) false ((j : Int) + 1) != knB T (inT T base) false ((j : Int) + 1)) = false := by simp
            generalize knB T (inT T base) false ((j : Int) + 1) = bb at *
            go_wp2_with fail
            go_roundw
            case rel => exact ⟨j + 1, u1, u2, t1, t2, by omega, by go_num, HTb, HMb, HNb, HDb, HBb⟩
            case measure => simp [intOf]; omega
          · obtain rfl : j = T.length := by omega
            have hnle : ¬ ((T.length : Int) + 1 ≤ (T.length : Int)) := by omega
            go_wp2_with fail
            refine (ksize_any wr HT.out).mono ?_
            rintro e w' ⟨rfl, rfl⟩
            go_wp2_with fail
            refine (awake03_any w').mono ?_
            rintro e wz ⟨rfl, hbz⟩
            have HBz := Lib.hid (HB.out.trans (hbz.mono HB.out.size))
            go_wp2_with fail
            go_ret
            exact ⟨rfl, HBz.out⟩
theorem again_row {A : Option Addr} {n c : Nat} {A2 : Option Addr} {n2 c2 : Nat} (w : World) (h0 : ∃ S, SpsAt3 w.heap.size w A n S) (h1 : IntsArg w A2 n2 c2) : Calls Try.prog 7 #[.slice A n c, .slice A2 n2 c2] w (AwakePost w) := by
  obtain ⟨S, hS⟩ := h0
  obtain ⟨xs, hr, -⟩ := h1
  exact again_any A n c S A2 n2 c2 xs w hS hr
end Go.Proofs.Ytmaedahleenlgaa
