/- KnowFinds: the walk. No condition. -/
import Derived.Test.YtmaedahleenlgaaRefFind
import Derived.Test.YtmaedahleenlgaaTold03
import Derived.Test.YtmaedahleenlgaaLaw03
import Derived.Test.YtmaedahleenlgaaRow03
import Derived.Test.YtmaedahleenlgaaTable03
set_option linter.unusedVariables false
set_option linter.unusedSimpArgs false
namespace Go.Proofs.Ytmaedahleenlgaa
open Go Go.RowKit Go.WideMaps

theorem isB_done {T : List Nd} {S : Int → Prop} {F C : List Bool} (hw : WfT T) (hd : DoneK T S F C) (h : Int) : isB C h = knB T S false h := by
  refine knB_of ?_
  unfold isB
  by_cases h1 : 1 ≤ h
  · rw [decide_eq_true (show 0 < h by omega), Bool.true_and]; exact hd.can h h1
  · rw [decide_eq_false (show ¬ 0 < h by omega), Bool.false_and]
    exact ⟨fun q => (by cases q), fun q => (by have := (Kn.there hw q).1; omega)⟩
theorem isB_low {C : List Bool} {h : Int} (h0 : ¬ 0 < h) : isB C h = false := by unfold isB; rw [decide_eq_false h0]; rfl
theorem isB_high {C : List Bool} {h : Int} (h0 : (C.length : Int) ≤ h) : isB C h = false := by
  unfold isB bget
  rw [List.getD_eq_getElem?_getD, List.getElem?_eq_none (by omega)]; simp
theorem isB_at {C : List Bool} {p : Nat} (h0 : 0 < p) : isB C (p : Int) = C.getD p false := by
  unfold isB bget
  rw [decide_eq_true (by omega), Int.toNat_natCast]; rfl
set_option maxHeartbeats 6400000 in
set_option maxRecDepth 100000 in
theorem finds_any {B' : Nat} (A : Option Addr) (n c : Nat) (S : List Sp3) (A2 : Option Addr) (n2 c2 : Nat) (base : List Int) (w : World) (h : SpsAt3 w.heap.size w A n S) (hr : Rds B' w .i64 A2 n2 c2 base) :
    Calls Try.prog 5 #[.slice A n c, .slice A2 n2 c2] w (AwakePost w) := by
  have HS := Lib.hid h
  have HR := Lib.hid hr
  have hl := Lib.hid hr.len
  have hcap := hr.cap
  have hmax := hr.max
  clear h hr
  go_enter Try.func5, Try.ntmps5
  go_wp2_with fail
  refine (light_any A n c S A2 n2 c2 w w.heap.size (Nat.le_refl _) HS.out hcap hmax).mono ?_
  rintro e w1 ⟨rfl, b, rfl, hb⟩
  have HLb := Lib.hid hb
  clear hb
  cases b with
  | false =>
    go_wp2_with fail
    go_ret
    exact ⟨rfl, Below.refl _ _⟩
  | true =>
  have hL := HLb.out rfl
  have hn50 := hL.2
  have HL := Lib.hid hL.1
  have hn6 : n ≤ 50 := by have := hL.1.1; have := HS.out.1; omega
  clear hL HLb
  go_wp2_with fail
  refine (new_any w1).mono ?_
  rintro e w2 ⟨tb, rfl, ht1, hb1⟩
  have HT1 := Lib.hid ht1
  have HB1 := Lib.hid hb1
  have hs1 := hb1.size
  clear ht1 hb1
  obtain ⟨rb, hrb⟩ : ∃ rb, w2.heap.size = rb := ⟨_, rfl⟩
  have HR2 := Lib.hid (ref_nil3 (B := w1.heap.size) (w := w2) (by omega) hrb)
  obtain ⟨w3, hw3⟩ : ∃ w3, w3 = w2.alloc (.cells #[.slice none 0 0] 32) := ⟨_, rfl⟩
  have HT2 : Hid (IsTab w1.heap.size w3 tb []) := by rw [hw3]; exact HT1.out.below (below_new _)
  have HB2 : Hid (Below w1.heap.size w1 w3) := by rw [hw3]; exact HB1.out.alloc hs1 _
  rw [← hw3] at HR2
  clear HT1 HB1 hs1
  go_wp2_with fail
  rw [← hw3]
  clear hw3 hrb
  go_loopw [7] (fun i wr => ∃ (k : Nat) (T : List Nd), k ≤ n ∧ i = .int .i64 k ∧ Hid (IsTab w1.heap.size wr tb T) ∧ Hid (IsRef w1.heap.size wr rb T) ∧ Hid (Below w1.heap.size w1 wr)) (fun i _ => n - (intOf i).toNat)
  case atStart => exact ⟨0, [], Nat.zero_le _, rfl, HT2, HR2, HB2⟩
  case round =>
    obtain ⟨k, T, hk, rfl, HT, HRf, HB⟩ := hrel
    clear HT2 HR2 HB2
    by_cases hlt : k < n
    · obtain ⟨s, hs⟩ : ∃ s, S[k]? = some s := ⟨_, List.getElem?_eq_getElem (by have := HS.out.1; omega)⟩
      obtain ⟨b0, o0, rfl, hlb⟩ := HS.out.2.1 (by omega)
      obtain ⟨b, o, eA, hsp⟩ := HS.out.2.2 k s hs
      cases eA
      obtain ⟨x0, x1, ⟨AP, cP, x2, HP⟩, hin, hall⟩ := hsp.below HB.out (by omega)
      have hP := Lib.hid HP
      have hAll := Lib.hid hall
      have hle := HL.out.2 s (List.mem_of_getElem? hs)
      have HLE := Lib.hid hle
      clear HP hs hsp hall hle hin
      go_wp2_with fail
      refine (do3_any s.kind s.text AP _ cP s.parts wr HT.out HRf.out hP.out hAll.out (by have := HLE.out.2; omega) (by have := HLE.out.1; omega)).mono ?_
      rintro e w4 ⟨rfl, ht3, hr3, hf3⟩
      obtain ⟨T3, hT3⟩ : ∃ T3, T3 = (stepT3 T s.kind s.text s.parts).1 := ⟨_, rfl⟩
      rw [← hT3] at ht3 hr3
      have HT3 := Lib.hid ht3
      have HR3 := Lib.hid hr3
      have HB3 := Lib.hid (HB.out.trans (hf3.below HB.out.size))
      clear ht3 hr3 hf3 HT HRf HB hT3 x0 x1 x2 hP hAll
      go_wp2_with fail
      go_roundw
      case rel => exact ⟨k + 1, T3, by omega, by go_num, HT3, HR3, HB3⟩
      case measure => simp [intOf]; omega
    · have hT := HT.out.1.len
      have HW := Lib.hid HT.out.1
      have key := find3_any base A2 n2 c2 wr HRf.out HB.out.size (HR.out.below HB.out) (by omega)
      go_wp2_with fail
      refine key.mono ?_
      clear key
      rintro e w4 ⟨v1, v2, F, C, rfl, hd, -, hoF, hoC, hb4⟩
      have HT4 := Lib.hid (HT.out.below hb4)
      have HR4 := Lib.hid (HRf.out.below hb4)
      have HB4 := Lib.hid (HB.out.trans (hb4.mono HB.out.size))
      have HF4 := Lib.hid hoF
      have HC4 := Lib.hid hoC
      have HD := Lib.hid hd
      clear hd hoF hoC hb4 HT HRf HB
      go_wp2_with fail
      refine (terms3_any A2 n2 c2 base w4 (HR.out.below HB4.out) (by omega)).mono ?_
      rintro e w5 ⟨A5, c5, rfl, ho5, hb5⟩
      have HT5 := Lib.hid (HT4.out.below hb5)
      have HR5 := Lib.hid (HR4.out.below hb5)
      have HB5 := Lib.hid (HB4.out.trans (hb5.mono HB4.out.size))
      have HF5 := Lib.hid (HF4.out.below hb5)
      have HC5 := Lib.hid (HC4.out.below hb5)
      have HO5 := Lib.hid ho5
      have hr5 := ho5.rds (B' := 0)
      have hle5 := hr5.cap
      have hm5 := hr5.max
      have hra : Rds 0 w5 .i64 A5 base.length c5 base := by rw [hl.out]; exact hr5
      obtain ⟨X, hX⟩ : ∃ X, X = knL T (inT T base) := ⟨_, rfl⟩
      have key := closed_any (tp := some ⟨tb, 0, none⟩) base A5 c5 w5 (.inr ⟨tb, rfl, HT5.out⟩) HB5.out.size hra (by have := hl.out; omega)
      rw [hl.out, ← hX] at key
      have hXF : X = folK F T.length := by rw [hX, folK_knL HD.out]
      have HX := Lib.hid hXF
      clear ho5 hb5 hr5 hra hX hXF HT4 HR4 HB4 HF4 HC4
      go_wp2_with fail
      refine key.mono ?_
      clear key
      rintro e w6 ⟨A6, c6, rfl, ho6, hb6⟩
      have HT6 := Lib.hid (HT5.out.below hb6)
      have HR6 := Lib.hid (HR5.out.below hb6)
      have HB6 := Lib.hid (HB5.out.trans (hb6.mono HB5.out.size))
      have HF6 := Lib.hid (HF5.out.below hb6)
      have HC6 := Lib.hid (HC5.out.below hb6)
      have HO6 := Lib.hid (HO5.out.below hb6)
      have key := told3_any X A6 c6 F v1 T.length w6 (ho6.rds (B' := 0)) HF6.out HD.out.len.F (by omega) HX.out
      clear ho6 hb6 HT5 HR5 HB5 HF5 HC5 HO5 HX
      go_wp2_with fail
      refine key.mono ?_
      clear key
      rintro e w7 ⟨rfl, rfl⟩
      obtain ⟨AC, cC, eC⟩ := HC6.out.slice
      have lC : C.length = T.length + 1 := HD.out.len.C
      rw [lC] at eC
      subst eC
      have LC := Lib.hid lC
      have hcC : T.length + 1 ≤ cC := by
        obtain ⟨g, cap, e, q, -⟩ := HC6.out.at_ (p := 0) (by omega) (by omega)
        simp only [Value.slice.injEq] at e
        omega
      clear lC
      go_wp2_with fail
      go_loopw [11] (fun v wr => ∃ (j : Nat), j ≤ T.length + 3 ∧ v = .int .i64 ((j : Int) - 1) ∧ Hid (IsTab w1.heap.size wr tb T) ∧ Hid (IsRef w1.heap.size wr rb T) ∧ Hid (OwnB wr 0 (.slice AC (T.length + 1) cC) C) ∧ Hid (OwnI wr 0 .i64 (.slice A5 n2 c5) base) ∧ Hid (Below w1.heap.size w1 wr)) (fun v _ => ((T.length : Int) + 2 - intOf v).toNat)
      case atStart => exact ⟨0, Nat.zero_le _, rfl, HT6, HR6, HC6.out.mono (Nat.zero_le _), HO6.out.mono (Nat.zero_le _), HB6⟩
      case round =>
        obtain ⟨j, hj, rfl, HT, HRf, HC, HO, HB⟩ := hrel
        obtain ⟨rA, rc, r0⟩ := HRf.out.len3
        by_cases hlt : j ≤ T.length + 2
        · have hle : (j : Int) - 1 ≤ (T.length : Int) + 1 := by omega
          obtain ⟨x, hx⟩ : ∃ x : Int, x = (j : Int) - 1 := ⟨_, rfl⟩
          have hra : Rds 0 wr .i64 A5 base.length c5 base := by rw [hl.out]; exact HO.out.rds
          have key := kcan_any (tp := some ⟨tb, 0, none⟩) base A5 c5 x (by omega) wr (.inr ⟨tb, rfl, HT.out⟩) HB.out.size hra (by have := hl.out; omega)
          rw [hl.out, ← isB_done HW.out HD.out x] at key
          have hw2 : IntKind.i64.wrap (x + 1) = x + 1 := by rw [IntKind.wrap_i64]; omega
          have HXJ := Lib.hid hx
          rw [← hx] at hle ⊢
          have hx1 : -1 ≤ x := by omega
          clear hra hx
          by_cases h0 : 0 < x
          · by_cases h1 : x < (T.length : Int) + 1
            · obtain ⟨p, rfl⟩ : ∃ p : Nat, x = p := ⟨x.toNat, by omega⟩
              obtain ⟨g, cap, e, hcc, q⟩ := HC.out.at_ (p := (p : Int)) (by omega) (by have := LC.out; omega)
              rw [LC.out] at e
              simp only [Value.slice.injEq] at e
              obtain ⟨rfl, -, rfl⟩ := e
              rw [Int.toNat_natCast] at q
              obtain ⟨b, hb⟩ : ∃ b, b = bget C (p : Int) := ⟨_, rfl⟩
              rw [← hb] at q
              have e2 : isB C (p : Int) = b := by rw [hb]; unfold isB; rw [decide_eq_true h0]; rfl
              rw [e2] at key
              have hne : (b != b) = false := by simp
              clear hb e2 hcc
              go_wp2_with fail
              refine key.mono ?_
              clear key
              rintro e w8 ⟨rfl, hb8⟩
              have HT8 := Lib.hid (HT.out.below hb8)
              have HR8 := Lib.hid (HRf.out.below hb8)
              have HC8 := Lib.hid (HC.out.below hb8)
              have HO8 := Lib.hid (HO.out.below hb8)
              have HB8 := Lib.hid (HB.out.trans (hb8.mono HB.out.size))
              clear hb8 HT HRf HC HO HB r0 q
              go_wp2_with fail
              go_roundw
              case rel => exact ⟨j + 1, by omega, by have := HXJ.out; go_num, HT8, HR8, HC8, HO8, HB8⟩
              case measure => have := HXJ.out; simp [intOf]; omega
            · rw [isB_high (by have := LC.out; omega)] at key
              go_wp2_with fail
              refine key.mono ?_
              clear key
              rintro e w8 ⟨rfl, hb8⟩
              have HT8 := Lib.hid (HT.out.below hb8)
              have HR8 := Lib.hid (HRf.out.below hb8)
              have HC8 := Lib.hid (HC.out.below hb8)
              have HO8 := Lib.hid (HO.out.below hb8)
              have HB8 := Lib.hid (HB.out.trans (hb8.mono HB.out.size))
              clear hb8 HT HRf HC HO HB r0
              go_wp2_with fail
              go_roundw
              case rel => exact ⟨j + 1, by omega, by have := HXJ.out; go_num, HT8, HR8, HC8, HO8, HB8⟩
              case measure => have := HXJ.out; simp [intOf]; omega
          · rw [isB_low h0] at key
            go_wp2_with fail
            refine key.mono ?_
            clear key
            rintro e w8 ⟨rfl, hb8⟩
            have HT8 := Lib.hid (HT.out.below hb8)
            have HR8 := Lib.hid (HRf.out.below hb8)
            have HC8 := Lib.hid (HC.out.below hb8)
            have HO8 := Lib.hid (HO.out.below hb8)
            have HB8 := Lib.hid (HB.out.trans (hb8.mono HB.out.size))
            clear hb8 HT HRf HC HO HB r0
            go_wp2_with fail
            go_roundw
            case rel => exact ⟨j + 1, by omega, by have := HXJ.out; go_num, HT8, HR8, HC8, HO8, HB8⟩
            case measure => have := HXJ.out; simp [intOf]; omega
        · have hnl : ¬ ((j : Int) - 1 ≤ (T.length : Int) + 1) := by omega
          go_wp2_with fail
          refine (awake03_any wr).mono ?_
          rintro e wz ⟨rfl, hbz⟩
          have HBz := Lib.hid (HB.out.trans (hbz.mono HB.out.size))
          go_wp2_with fail
          go_ret
          exact ⟨rfl, HBz.out⟩
theorem finds_row {A : Option Addr} {n c : Nat} {A2 : Option Addr} {n2 c2 : Nat} (w : World) (h0 : ∃ S, SpsAt3 w.heap.size w A n S) (h1 : IntsArg w A2 n2 c2) : Calls Try.prog 5 #[.slice A n c, .slice A2 n2 c2] w (AwakePost w) := by
  obtain ⟨S, hS⟩ := h0
  obtain ⟨xs, hr, -⟩ := h1
  exact finds_any A n c S A2 n2 c2 xs w hS hr
end Go.Proofs.Ytmaedahleenlgaa
