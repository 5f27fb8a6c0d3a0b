/- KnowMore: the walk. No condition. -/
import Derived.Test.YtmaedahleenlgaaKnowAgain
set_option linter.unusedVariables false
set_option linter.unusedSimpArgs false
namespace Go.Proofs.Ytmaedahleenlgaa
open Go Go.RowKit Go.WideMaps

theorem knL_asc (T : List Nd) (S : Int → Prop) : (knL T S).Pairwise (· < ·) := asc_range _ _
theorem knL_sub {T : List Nd} (hw : WfT T) {S S' : Int → Prop} (h : ∀ x, S x → S' x) {x : Int} (hx : x ∈ knL T S) : x ∈ knL T S' := (mem_knL hw).2 (((mem_knL hw).1 hx).mono h)
theorem knB_sub {T : List Nd} {S S' : Int → Prop} (h : ∀ x, S x → S' x) {b : Bool} {x : Int} (hx : knB T S b x = true) : knB T S' b x = true := knB_true.2 ((knB_true.1 hx).mono h)
theorem inT_app {T : List Nd} {l l' : List Int} (x : Int) (h : inT T l x) : inT T (l ++ l') x := ⟨List.mem_append_left _ h.1, h.2⟩
set_option maxHeartbeats 6400000 in
set_option maxRecDepth 100000 in
theorem more_any {B' : Nat} (A : Option Addr) (n c : Nat) (S : List Sp3) (A2 : Option Addr) (n2 c2 : Nat) (base : List Int) (more : Int) (w : World) (h : SpsAt3 w.heap.size w A n S) (hr : Rds B' w .i64 A2 n2 c2 base) :
    Calls Try.prog 6 #[.slice A n c, .slice A2 n2 c2, .int .i64 more] w (AwakePost w) := by
  have HS := Lib.hid h
  have HR := Lib.hid hr
  have hl := Lib.hid hr.len
  have hcap := hr.cap
  have hmax := hr.max
  clear h hr
  go_enter Try.func6, Try.ntmps6
  go_wp2_with fail
  refine (light_any A n c S A2 n2 c2 w w.heap.size (Nat.le_refl _) HS.out hcap hmax).mono ?_
  rintro e w1 ⟨rfl, b, rfl, hb⟩
  have HLb := Lib.hid hb
  clear hb
  cases b with
  | false =>
    go_wp2_with fail
    go_ret
    exact ⟨rfl, Below.refl _ _⟩
  | true =>
  have hL := HLb.out rfl
  have hn50 := hL.2
  have HL := Lib.hid hL.1
  clear hL
  go_wp2_with fail
  refine (table_any A n c S w1 w1.heap.size (Nat.le_refl _) HS.out HL.out).mono ?_
  rintro e w2 ⟨tb, T, rfl, ht2, hb2⟩
  have HT2 := Lib.hid ht2
  have HB2 := Lib.hid hb2
  have HW := Lib.hid ht2.1
  have hT := ht2.1.len
  clear ht2 hb2
  go_wp2_with fail
  refine (terms3_any A2 n2 c2 base w2 (HR.out.below HB2.out) (by omega)).mono ?_
  rintro e w3 ⟨A3, c3, rfl, ho3, hb3⟩
  have HT3 := Lib.hid (HT2.out.below hb3)
  have HB3 := Lib.hid (HB2.out.trans (hb3.mono HB2.out.size))
  have HO3 := Lib.hid ho3
  have hr3 := ho3.rds (B' := 0)
  have hle3 := hr3.cap
  have hm3 := hr3.max
  clear ho3 hb3 hr3
  have HE4 := Lib.hid (OwnI.empty (w := w3) (k := .i64) (B := w3.heap.size) (t := 37) (Nat.le_refl _) sp_term)
  have hb4 : Below w3.heap.size w3 (w3.alloc (.cells #[] 37)) := below_new _
  have HR4 := Lib.hid ((HO3.out.below hb4).rds (B' := 0))
  have HB34 := Lib.hid hb4
  clear hb4
  go_wp2_with (at_builtin; refine wp_app_term (ys := base) rfl _ _ rfl rfl rfl HE4.out HR4.out.cell HR4.out.len (by simp) ?_ ?_)
  · have := hl.out; simp; omega
  intro v5 w5 ho5 hg5 hb5
  have HO5 := Lib.hid ho5
  have HB35 := Lib.hid (HB34.out.trans hb5)
  have hs5 := (HB34.out.trans hb5).size
  clear ho5 hg5 hb5
  go_wp2_with (at_builtin; refine wp_app_term (ys := [more]) rfl _ _ rfl rfl rfl (HO5.out.below (below_new _)) (RdI.one_at _ .i64 _ _ rfl) rfl ?_ ?_ ?_)
  · simp; omega
  · have := hl.out; simp; omega
  intro v6 w6 ho6 hg6 hb6
  obtain ⟨M, hM⟩ : ∃ M, M = base ++ [more] := ⟨_, rfl⟩
  have hMl : M.length ≤ 51 := by rw [hM]; have := hl.out; simp; omega
  rw [← hM] at ho6
  have HM := Lib.hid hM
  have hb36 : Below w3.heap.size w3 w6 := (HB35.out.alloc hs5 _).trans hb6
  have HT6 : Hid (TabAt w1.heap.size w6 (some ⟨tb, 0, none⟩) T) := Lib.hid (.inr ⟨tb, rfl, HT3.out.below hb36⟩)
  have HB6 := Lib.hid (HB3.out.trans (hb36.mono HB3.out.size))
  have HA6 := Lib.hid (HO3.out.below hb36)
  have HO6 := Lib.hid ho6
  obtain ⟨A6, c6, e6⟩ := ho6.slice
  subst e6
  have hr6 := ho6.rds (B' := 0)
  have hle6 := hr6.cap
  have hm6 := hr6.max
  clear hM ho6 hg6 hb6 hb36 hr6
  obtain ⟨X, hX⟩ : ∃ X, X = knL T (inT T base) := ⟨_, rfl⟩
  obtain ⟨K, hK⟩ : ∃ K, K = knL T (inT T M) := ⟨_, rfl⟩
  have hXl : X.length ≤ 65536 := by rw [hX]; exact Nat.le_trans knL_len hT
  have hKl : K.length ≤ 65536 := by rw [hK]; exact Nat.le_trans knL_len hT
  have HXA : Hid (X.Pairwise (· < ·)) := by rw [hX]; exact knL_asc _ _
  have HKA : Hid (K.Pairwise (· < ·)) := by rw [hK]; exact knL_asc _ _
  have HSUB : Hid (∀ x ∈ X, x ∈ K) := fun x hx => by rw [hX] at hx; rw [hK, HM.out]; exact knL_sub HW.out inT_app hx
  have HCAN : Hid (∀ x, knB T (inT T base) false x = true → knB T (inT T M) false x = true) := fun x hx => by rw [HM.out]; exact knB_sub inT_app hx
  have hra : Rds 0 w6 .i64 A3 base.length c3 base := by rw [hl.out]; exact HA6.out.rds
  have key := closed_any (tp := some ⟨tb, 0, none⟩) base A3 c3 w6 HT6.out HB6.out.size hra (by have := hl.out; omega)
  rw [hl.out, ← hX] at key
  have HX := Lib.hid hX
  have HK := Lib.hid hK
  clear hra hX hK
  go_wp2_with fail
  refine key.mono ?_
  clear key
  rintro e w7 ⟨A7, c7, rfl, ho7, hb7⟩
  have HT7 := Lib.hid (HT6.out.below hb7)
  have HB7 := Lib.hid (HB6.out.trans (hb7.mono HB6.out.size))
  have HA7 := Lib.hid (HA6.out.below hb7)
  have HO7 := Lib.hid (HO6.out.below hb7)
  have HXR := Lib.hid (ho7.rds (B' := 0))
  have hle7 := HXR.out.cap
  have hm7 := HXR.out.max
  clear ho7 hb7
  go_wp2_with fail
  refine (knew_any w1.heap.size (some ⟨tb, 0, none⟩) w7 HB7.out.size).mono ?_
  rintro e w8 ⟨rfl, hm8, hb8⟩
  have HM8 := Lib.hid (MindV.new HW.out hm8)
  have HT8 := Lib.hid (HT7.out.below hb8)
  have HB8 := Lib.hid (HB7.out.trans (hb8.mono HB7.out.size))
  have HA8 := Lib.hid (HA7.out.below hb8)
  have HR8 := Lib.hid ((HO7.out.below hb8).rds (B' := 0))
  have HXR8 := Lib.hid (HXR.out.below hb8)
  have hq8 := hm8.lt
  clear hm8 hb8
  have key := vlearn_any M A6 c6 w8 HM8.out HT8.out HR8.out (by omega)
  go_wp2_with fail
  refine key.mono ?_
  clear key
  rintro e w9 ⟨rfl, u1, u2, hk9⟩
  have hf9 := hk9.frm HM8.out
  have HT9 := Lib.hid (HT8.out.mnd hf9)
  have HM9 := Lib.hid (hk9.m.iff (S' := inT T M) fun x => ⟨fun q => q.elim (fun f => f.elim) id, .inr⟩)
  have HB9 := Lib.hid (HB8.out.trans (hk9.below HM8.out))
  have HA9 := Lib.hid (HA8.out.frm (hf9.mono mndO_sp))
  have HXR9 := Lib.hid (HXR8.out.frm (B := 0) ((hf9.weak (Nat.zero_le _)).mono mndO_sp))
  clear hf9 hk9
  have key := vknows_any w9 HM9.out HT9.out
  rw [← HK.out] at key
  go_wp2_with fail
  refine key.mono ?_
  clear key
  rintro e wa ⟨Aa, ca, rfl, hoa, y1, y2, hka⟩
  have hfa := hka.frm HM9.out
  have HTa := Lib.hid (HT9.out.mnd hfa)
  have HMa := Lib.hid hka.m
  have HBa := Lib.hid (HB9.out.trans (hka.below HM9.out))
  have HAa := Lib.hid (HA9.out.frm (hfa.mono mndO_sp))
  have HXRa := Lib.hid (HXR9.out.frm (B := 0) ((hfa.weak (Nat.zero_le _)).mono mndO_sp))
  have HKRa := Lib.hid (hoa.rds (B' := 0))
  have hlea := HKRa.out.cap
  have hma := HKRa.out.max
  clear hfa hka hoa HT6 HB6 HA6 HO6 HT7 HB7 HA7 HO7 HXR HT8 HB8 HA8 HR8 HXR8 HM8 HM9 HT9 HB9 HA9 HXR9
  go_wp2_with fail
  go_loopw [13, 14] (fun vj vi wr => ∃ (i j : Nat), i ≤ X.length ∧ j ≤ K.length ∧ vi = .int .i64 i ∧ vj = .int .i64 j ∧ Hid (∀ q, q < j → i < X.length → nth K q < nth X i) ∧ ∃ q, wr = wa.drewN q) (fun _ vi _ => X.length - (intOf vi).toNat)
  case atStart => exact ⟨0, 0, Nat.zero_le _, Nat.zero_le _, rfl, rfl, fun q hq => by omega, 0, rfl⟩
  case round =>
    obtain ⟨i, j, hi, hj, rfl, rfl, HQ, q, rfl⟩ := hrel
    by_cases hlt : i < X.length
    · obtain ⟨bX, oX, rfl, hcx⟩ := RdI.at_ HXRa.out.cell (by omega)
      have g1 := hcx i hlt
      obtain ⟨x, hx⟩ : ∃ x, x = nth X i := ⟨_, rfl⟩
      rw [← hx] at g1
      have HXI := Lib.hid hx
      clear hcx hx
      go_wp2_with fail
      go_loopw [13] (fun vj wr => ∃ (j : Nat), j ≤ K.length ∧ vj = .int .i64 j ∧ Hid (∀ q, q < j → nth K q < x) ∧ ∃ q, wr = wa.drewN q) (fun vj _ => K.length - (intOf vj).toNat)
      case atStart => exact ⟨j, hj, rfl, fun q hq => by rw [HXI.out]; exact HQ.out q hq hlt, q, rfl⟩
      case round =>
        obtain ⟨j, hj, rfl, HQj, q, rfl⟩ := hrel
        have hxK : x ∈ K := HSUB.out x (by rw [HXI.out]; exact nth_mem hlt)
        by_cases hjl : j < K.length
        · obtain ⟨bK, oK, rfl, hck⟩ := RdI.at_ HKRa.out.cell (by omega)
          have g2 := hck j hjl
          clear hck
          by_cases hz : nth K j < x
          · have HQ2 : Hid (∀ q, q < j + 1 → nth K q < x) := fun q hq => by
              rcases Nat.lt_or_ge q j with h | h
              · exact HQj.out q h
              · obtain rfl : q = j := by omega
                exact hz
            clear hxK
            go_wp2
            go_quiet (fail)
            go_wp2
            go_roundw
            case rel => exact ⟨j + 1, by omega, by go_num, HQ2, _, rfl⟩
            case measure => simp [intOf]; omega
          · have hsc := (scan_at HKA.out hxK HQj.out hj (fun h => hz h.2)).2
            rw [hsc] at g2
            have hxx : (x != x) = false := by simp
            have hje : ((j : Int) == (K.length : Int)) = false := by simp; omega
            have HQ3 : Hid (∀ q, q < j → i + 1 < X.length → nth K q < nth X (i + 1)) := fun q hq h1 => by
              have h2 := HQj.out q hq
              have h3 := asc_nth (i := i) (j := i + 1) HXA.out (by omega) h1
              rw [← HXI.out] at h3
              omega
            clear hxK hsc hz
            go_wp2
            go_quiet (fail)
            go_wp2
            go_quiet (fail)
            go_wp2
            go_roundw
            case rel => exact ⟨i + 1, j, by omega, hj, by go_num, rfl, HQ3, _, rfl⟩
            case measure => simp [intOf]; omega
        · have hsc := (scan_at HKA.out hxK HQj.out hj (fun h => hjl h.1)).1
          omega
    · obtain rfl : i = X.length := by omega
      go_wp2_with fail
      have hd5 : Below wa.heap.size wa (wa.drewN q) := below_drewN (Below.refl _ _) _
      have HTb := Lib.hid (HTa.out.below hd5)
      have HBb := Lib.hid (HBa.out.trans (hd5.mono HBa.out.size))
      have HMb := Lib.hid (HMa.out.below hd5)
      have HAb := Lib.hid (HAa.out.below hd5)
      generalize wa.drewN q = wb at HTb HBb HMb HAb ⊢
      clear HTa HBa HMa HAa hd5 HXRa HKRa
      go_loopw [15] (fun v wr => ∃ (j : Nat) (z1 z2 : Value), j ≤ T.length ∧ v = .int .i64 ((j : Int) + 1) ∧ Hid (TabAt w1.heap.size wr (some ⟨tb, 0, none⟩) T) ∧ Hid (MindV w1.heap.size wr w7.heap.size (some ⟨tb, 0, none⟩) z1 z2 T (inT T M)) ∧ Hid (OwnI wr w2.heap.size .i64 (.slice A3 n2 c3) base) ∧ Hid (Below w1.heap.size w1 wr)) (fun v _ => T.length + 1 - (intOf v).toNat)
      case atStart => exact ⟨0, y1, y2, Nat.zero_le _, rfl, HTb, HMb, HAb, HBb⟩
      case round =>
        obtain ⟨j, z1, z2, hj, rfl, HT, HM', HA, HB⟩ := hrel
        by_cases hlt : j < T.length
        · have hle : (j : Int) + 1 ≤ (T.length : Int) := by omega
          go_wp2_with fail
          refine (ksize_any wr HT.out).mono ?_
          rintro e w' ⟨rfl, rfl⟩
          have hra : Rds 0 w' .i64 A3 base.length c3 base := by rw [hl.out]; exact HA.out.rds
          have key := kcan_any (tp := some ⟨tb, 0, none⟩) base A3 c3 ((j : Int) + 1) (by omega) w' HT.out HB.out.size hra (by have := hl.out; omega)
          rw [hl.out] at key
          have hcan := HCAN.out ((j : Int) + 1)
          obtain ⟨b1, hb1⟩ : ∃ b1, b1 = knB T (inT T base) false ((j : Int) + 1) := ⟨_, rfl⟩
          rw [← hb1] at key hcan
          have HCN := Lib.hid hcan
          clear hra hcan hb1
          go_wp2_with fail
          refine key.mono ?_
          clear key
          rintro e wx ⟨rfl, hbx⟩
          have HTx := Lib.hid (HT.out.below hbx)
          have HBx := Lib.hid (HB.out.trans (hbx.mono HB.out.size))
          have HMx := Lib.hid (HM'.out.below hbx)
          have HAx := Lib.hid (HA.out.below hbx)
          clear HT HB HM' HA hbx
          cases b1 with
          | false =>
            go_wp2_with fail
            go_roundw
            case rel => exact ⟨j + 1, z1, z2, by omega, by go_num, HTx, HMx, HAx, HBx⟩
            case measure => simp [intOf]; omega
          | true =>
            have key := vcan_any ((j : Int) + 1) (by omega) wx HMx.out HTx.out
            rw [HCN.out rfl] at key
            go_wp2_with fail
            refine key.mono ?_
            clear key
            rintro e wy ⟨rfl, t1, t2, hk⟩
            have hf := hk.frm HMx.out
            have HTy := Lib.hid (HTx.out.mnd hf)
            have HBy := Lib.hid (HBx.out.trans (hk.below HMx.out))
            have HMy := Lib.hid hk.m
            have HAy := Lib.hid (HAx.out.frm (hf.mono mndO_sp))
            clear hf hk HTx HBx HMx HAx
            go_wp2_with fail
            go_roundw
            case rel => exact ⟨j + 1, t1, t2, by omega, by go_num, HTy, HMy, HAy, HBy⟩
            case measure => simp [intOf]; omega
        · obtain rfl : j = T.length := by omega
          have hnle : ¬ ((T.length : Int) + 1 ≤ (T.length : Int)) := by omega
          go_wp2_with fail
          refine (ksize_any wr HT.out).mono ?_
          rintro e w' ⟨rfl, rfl⟩
          go_wp2_with fail
          refine (awake03_any w').mono ?_
          rintro e wz ⟨rfl, hbz⟩
          have HBz := Lib.hid (HB.out.trans (hbz.mono HB.out.size))
          go_wp2_with fail
          go_ret
          exact ⟨rfl, HBz.out⟩
theorem more_row {A : Option Addr} {n c : Nat} {A2 : Option Addr} {n2 c2 : Nat} (w : World) (h0 : ∃ S, SpsAt3 w.heap.size w A n S) (h1 : IntsArg w A2 n2 c2) (more : Int) (hm : (Lit.int .i64 more).wf = true) : Calls Try.prog 6 #[.slice A n c, .slice A2 n2 c2, .int .i64 more] w (AwakePost w) := by
  obtain ⟨S, hS⟩ := h0
  obtain ⟨xs, hr, -⟩ := h1
  exact more_any A n c S A2 n2 c2 xs more w hS hr
end Go.Proofs.Ytmaedahleenlgaa
