/- The walk of TermTwice. No condition. -/
import Derived.Test.YtoelbhmgmlnieaaTermMakes
set_option linter.unusedVariables false
set_option linter.unusedSimpArgs false
namespace Go.Proofs.Ytoelbhmgmlnieaa
open Go Go.RowKit Go.WideMaps

set_option maxHeartbeats 3200000 in
set_option maxRecDepth 100000 in
theorem twice_walk (w : World) (A : Option Addr) (n c : Nat) (S : List Sp) (h : SpsAt w.heap.size w A n S) :
    Calls Try.prog 10 #[.slice A n c] w (AwakePost w) := by
  have HS := Lib.hid h
  clear h
  go_enter Try.func10, Try.ntmps10
  by_cases ha : 60 < n
  · go_wp2_with fail
    go_ret
    exact ⟨rfl, Below.refl _ _⟩
  go_wp2_with fail
  refine (new_any w).mono ?_
  rintro e w1 ⟨tb, rfl, ht1, hb1⟩
  have HT1 := Lib.hid ht1
  have HB1 := Lib.hid hb1
  have hs1 := hb1.size
  clear ht1 hb1
  go_wp2_with fail
  obtain ⟨rb, hrb⟩ : ∃ rb, w1.heap.size = rb := ⟨_, rfl⟩
  have HR2 := Lib.hid (ref_nil (B := w.heap.size) (w := w1) (by omega) hrb)
  obtain ⟨w2, hw2⟩ : ∃ w2, w2 = w1.alloc (.cells #[.slice none 0 0] 77) := ⟨_, rfl⟩
  have HT2 : Hid (IsTab w.heap.size w2 tb []) := by rw [hw2]; exact HT1.out.below (below_new _)
  have HB2 : Hid (Below w.heap.size w w2) := by rw [hw2]; exact HB1.out.alloc hs1 _
  rw [← hw2] at HR2 ⊢
  rw [hrb]
  clear hw2 HT1 HB1 hrb hs1
  go_wp2_with fail
  go_loopw [5] (fun i wr => ∃ (k : Nat) (T : List Nd), k ≤ n ∧ i = .int .i64 k ∧ IsTab w.heap.size wr tb T ∧ IsRef w.heap.size wr rb T ∧ Below w.heap.size w wr) (fun i _ => n - (intOf i).toNat)
  case atStart => exact ⟨0, [], Nat.zero_le _, rfl, HT2.out, HR2.out, HB2.out⟩
  case round =>
    obtain ⟨k, T, hk, rfl, ht, hr, hb⟩ := hrel
    have HT := Lib.hid ht
    have HR := Lib.hid hr
    have HB := Lib.hid hb
    clear ht hr hb HT2 HR2 HB2
    by_cases hlt : k < n
    · obtain ⟨s, hs⟩ : ∃ s, S[k]? = some s := ⟨_, List.getElem?_eq_getElem (by have := HS.out.1; omega)⟩
      obtain ⟨b0, o0, rfl, hlb⟩ := HS.out.2.1 (by omega)
      obtain ⟨b, o, eA, hsp⟩ := HS.out.2.2 k s hs
      cases eA
      obtain ⟨x0, x1, ⟨AP, cP, x2, HP⟩, x3, hin, hall⟩ := hsp.below HB.out hlb
      have hP := Lib.hid HP
      have hAll := Lib.hid hall
      obtain ⟨hi0, hi1⟩ := hin
      have hsp0 := Lib.hid hsp
      clear HP hs hsp hall
      by_cases c1 : 100 < s.text.size
      · go_wp2_with fail
        go_ret
        exact ⟨rfl, HB.out⟩
      by_cases c2 : 20 < s.parts.length
      · go_wp2_with fail
        go_ret
        exact ⟨rfl, HB.out⟩
      have hT := HT.out.1.len
      have hTs : (T.length : Int) ≤ 70000 := by omega
      go_wp2_with fail
      go_region_held3 (fun w' => w'.cell? ⟨b0, o0 + k * 4, none⟩ = some (.int .i64 s.kind) ∧ w'.cell? ⟨b0, o0 + k * 4 + 1, none⟩ = some (.string s.text) ∧ w'.cell? ⟨b0, o0 + k * 4 + 2, none⟩ = some (.slice AP s.parts.length cP) ∧ w'.cell? ⟨b0, o0 + k * 4 + 3, none⟩ = some (.bool s.near))
        (first | exact ⟨z0, z1, z2, z3⟩ | go_keep) ((first
        | (go_at_call 44
           refine (size_any _ (HT.out.below ((Below.refl _ _).drew))).mono ?_
           rintro e w2 ⟨rfl, rfl⟩)
        | (go_at_call 47
           refine (parts_any (B' := w.heap.size) s.kind s.text AP _ cP s.parts s.near T.length _ (hP.out.below ((Below.refl _ _).drew)) (by omega) hAll.out hTs).mono ?_
           rintro e w2 ⟨v2, rfl, hv2, hb2⟩
           have z0 := cell_later hb2 (a := ⟨b0, o0 + k * 4, none⟩) x0
           have z1 := cell_later hb2 (a := ⟨b0, o0 + k * 4 + 1, none⟩) x1
           have z2 := cell_later hb2 (a := ⟨b0, o0 + k * 4 + 2, none⟩) x2
           have z3 := cell_later hb2 (a := ⟨b0, o0 + k * 4 + 3, none⟩) x3
           have HBd : Hid (Below wr.heap.size wr w2) := (Below.drew (Below.refl wr.heap.size wr)).trans hb2
           have HV2 := Lib.hid hv2
           clear hv2 hb2)))
      all_goals
        have HT2 := Lib.hid (HT.out.below HBd.out)
        have HR2 := Lib.hid (HR.out.below HBd.out)
        have HB2 := Lib.hid (below_next HB.out HB.out.size HBd.out)
        have hP2 := Lib.hid (hP.out.below HBd.out)
        have HV2' : Hid (OwnI w2 w.heap.size .i64 v2 (partsT s.near T.length s.parts)) := HV2.out.mono (by have := HB.out.size; simp; omega)
        have HPX := Lib.hid (partsT_in (near := s.near) hAll.out hTs)
        have hl2 : Hid ((partsT s.near T.length s.parts).length = s.parts.length) := partsT_length
        obtain ⟨A2, c2, rfl⟩ := HV2.out.slice
        rw [hl2.out] at HV2' ⊢
        have hsw2 := HB2.out.size
        clear HBd HT HR HB hP HV2
        go_wp2_with fail
        refine (do_any s.kind s.text AP _ cP s.parts s.near w2 HT2.out HR2.out hP2.out hAll.out (by omega) (by omega)).mono ?_
        rintro e w3 p3
        obtain ⟨⟨T3, h3⟩, he3⟩ : ∃ r, stepT T s.kind s.text (partsT s.near T.length s.parts) = r := ⟨_, rfl⟩
        obtain ⟨rfl, ht3, hr3, hf3⟩ := p3.intro he3
        have HT3 := Lib.hid ht3
        have HR3 := Lib.hid hr3
        have HB3 := Lib.hid (HB2.out.trans (hf3.below hsw2))
        have hs3 := HB3.out.size
        have HV3 := Lib.hid (HV2'.out.frm hf3)
        have HE3 := Lib.hid he3
        have HW2 := Lib.hid HT2.out.1
        have hT3 := HT3.out.1.len
        have hr3' : Hid (-9223372036854775808 ≤ h3 ∧ h3 ≤ 9223372036854775807) := by
          have := stepT_range (T := T) (kind := s.kind) (text := s.text) (parts := partsT s.near T.length s.parts) hT
          rw [HE3.out] at this
          show _ ∧ _
          simp only at this
          omega
        obtain ⟨hr3a, hr3b⟩ := hr3'.out
        clear p3 ht3 hr3 hf3 HT2 HR2 HB2 he3 z0 z1 z2 z3 hP2 HV2' hsw2 x0 x1 x2 x3
        obtain ⟨x0, x1, ⟨AP', cP', x2, -⟩, x3, -, -⟩ := hsp0.out.below HB3.out hlb
        go_wp2_with fail
        refine (size_any _ HT3.out).mono ?_
        rintro e w4 ⟨rfl, rfl⟩
        have hnsz : ((T3.length : Int) != (T3.length : Int)) = false := by simp
        have hnh : (h3 != h3) = false := by simp
        by_cases hz : h3 = 0
        · have hzb : (h3 == 0) = true := by simp [hz]
          have HTz := HT3
          have HRz := HR3
          have HBz := HB3
          have HZ := Lib.hid hz
          clear hz HT3 HR3 HB3 HV3
          go_wp2_with fail
          refine (look_any h3 _ HTz.out (by omega) (by omega)).mono ?_
          rintro e w7 ⟨A7, c7, rfl, ho7, hb7⟩
          have HT7 := Lib.hid (HTz.out.below hb7)
          have HR7 := Lib.hid (HRz.out.below hb7)
          have HB7 := Lib.hid (below_next HBz.out HBz.out.size hb7)
          have hs7 := HB7.out.size
          have HN := Lib.hid (fun p hp => parts_less (T := T3) HTz.out.1 (h := h3) p hp)
          obtain ⟨⟨nk, nt, np⟩, hnd⟩ : ∃ nd, nodeT T3 h3 = nd := ⟨_, rfl⟩
          rw [hnd] at ho7 ⊢
          have HN' : Hid (∀ p ∈ np, 1 ≤ p ∧ p < h3) := by have := HN.out; rw [hnd] at this; exact this
          have HO7 := Lib.hid ho7
          have HF := Lib.hid (below_new (w := w7) (.cells #[.int .i64 nk, .string nt, .slice A7 np.length c7] 84))
          clear ho7 hb7 HN hnd HTz HRz HBz
          go_wp2_with fail
          obtain ⟨W, hW⟩ : ∃ W, W = w7.alloc (.cells #[.int .i64 nk, .string nt, .slice A7 np.length c7] 84) := ⟨_, rfl⟩
          have q2 : W.cell? ⟨w7.heap.size, 2, none⟩ = some (.slice A7 np.length c7) := by rw [hW]; simp [go_sem]
          rw [← hW] at HF ⊢
          clear hW
          have HT8 := Lib.hid (HT7.out.below HF.out)
          have HR8 := Lib.hid (HR7.out.below HF.out)
          have HB8 := Lib.hid (below_next HB7.out hs7 HF.out)
          have HO8 := Lib.hid (HO7.out.below HF.out)
          clear HT7 HR7 HB7 HO7
          go_loop [12] (fun i => ∃ m : Nat, m ≤ np.length ∧ i = .int .i64 m) (fun i => np.length - (intOf i).toNat)
          case atStart => exact ⟨0, Nat.zero_le _, rfl⟩
          case round =>
            obtain ⟨m, hm, rfl⟩ := hrel
            by_cases hmN : m < np.length
            · obtain ⟨g, cap, e1, -, hgl, hcap, hc, -, -⟩ := HO8.out.form (by omega)
              cases e1
              have hmx := (HO8.out.rds (B' := 0)).max
              have g1 := hc m hmN
              have hpm := HN'.out _ (nth_mem hmN)
              have hn1 : ¬ (h3 ≤ nth np m) := by omega
              have hn2 : ¬ (nth np m < 1) := by omega
              clear hc
              go_wp2_with fail
              go_round
              case rel => exact ⟨m + 1, by omega, by go_num⟩
              case measure => simp [intOf]; omega
            · obtain rfl : m = np.length := by omega
              go_wp2_with fail
              go_roundw
              case rel => exact ⟨k + 1, T3, by omega, by go_num, HT8.out, HR8.out, HB8.out⟩
              case measure => simp [intOf]; omega
        have hzb : (h3 == 0) = false := by simp [hz]
        have HZ := Lib.hid hz
        clear hz
        by_cases hk1 : s.kind = 1
        · have hk1b : (s.kind == 1) = true := by simp [hk1]
          have HA : Hid (textT T3 s.text = (T3, h3)) := by
            have := HE3.out
            unfold stepT at this
            rw [if_pos hk1] at this
            exact textT_again HT3.out.1 this HZ.out
          have HK := Lib.hid hk1
          clear hk1
          go_wp2_with ((with_reducible show wpList _ _ _ (Oper.mk _ (Op.convert 9 22 _) _ _ _ _ :: _) _ _); refine wp_str_bytes rfl _ rfl s.text rfl (by omega) ?_; intro cc w5 hr5 hb5)
          refine (text_any _ _ _ _ w5 (HT3.out.below hb5) (hr5 0)).mono ?_
          rintro e w6 p6
          rw [str_numsL] at p6
          obtain ⟨rfl, ht6, hf6⟩ := p6.intro HA.out
          have HTz := Lib.hid ht6
          have HRz := Lib.hid ((HR3.out.below hb5).frm hf6 (Nat.le_refl _) ref_tab tabO_sp)
          have HBz := Lib.hid ((below_next HB3.out hs3 hb5).trans (hf6.below (by have := hb5.size; omega)))
          clear p6 ht6 hf6 hr5 hb5 HT3 HR3 HB3 HV3
          go_wp2_with fail
          refine (size_any _ HTz.out).mono ?_
          rintro e w8 ⟨rfl, rfl⟩
          go_wp2_with fail
          refine (look_any h3 _ HTz.out (by omega) (by omega)).mono ?_
          rintro e w7 ⟨A7, c7, rfl, ho7, hb7⟩
          have HT7 := Lib.hid (HTz.out.below hb7)
          have HR7 := Lib.hid (HRz.out.below hb7)
          have HB7 := Lib.hid (below_next HBz.out HBz.out.size hb7)
          have hs7 := HB7.out.size
          have HN := Lib.hid (fun p hp => parts_less (T := T3) HTz.out.1 (h := h3) p hp)
          obtain ⟨⟨nk, nt, np⟩, hnd⟩ : ∃ nd, nodeT T3 h3 = nd := ⟨_, rfl⟩
          rw [hnd] at ho7 ⊢
          have HN' : Hid (∀ p ∈ np, 1 ≤ p ∧ p < h3) := by have := HN.out; rw [hnd] at this; exact this
          have HO7 := Lib.hid ho7
          have HF := Lib.hid (below_new (w := w7) (.cells #[.int .i64 nk, .string nt, .slice A7 np.length c7] 84))
          clear ho7 hb7 HN hnd HTz HRz HBz
          go_wp2_with fail
          obtain ⟨W, hW⟩ : ∃ W, W = w7.alloc (.cells #[.int .i64 nk, .string nt, .slice A7 np.length c7] 84) := ⟨_, rfl⟩
          have q2 : W.cell? ⟨w7.heap.size, 2, none⟩ = some (.slice A7 np.length c7) := by rw [hW]; simp [go_sem]
          rw [← hW] at HF ⊢
          clear hW
          have HT8 := Lib.hid (HT7.out.below HF.out)
          have HR8 := Lib.hid (HR7.out.below HF.out)
          have HB8 := Lib.hid (below_next HB7.out hs7 HF.out)
          have HO8 := Lib.hid (HO7.out.below HF.out)
          clear HT7 HR7 HB7 HO7
          go_loop [12] (fun i => ∃ m : Nat, m ≤ np.length ∧ i = .int .i64 m) (fun i => np.length - (intOf i).toNat)
          case atStart => exact ⟨0, Nat.zero_le _, rfl⟩
          case round =>
            obtain ⟨m, hm, rfl⟩ := hrel
            by_cases hmN : m < np.length
            · obtain ⟨g, cap, e1, -, hgl, hcap, hc, -, -⟩ := HO8.out.form (by omega)
              cases e1
              have hmx := (HO8.out.rds (B' := 0)).max
              have g1 := hc m hmN
              have hpm := HN'.out _ (nth_mem hmN)
              have hn1 : ¬ (h3 ≤ nth np m) := by omega
              have hn2 : ¬ (nth np m < 1) := by omega
              clear hc
              go_wp2_with fail
              go_round
              case rel => exact ⟨m + 1, by omega, by go_num⟩
              case measure => simp [intOf]; omega
            · obtain rfl : m = np.length := by omega
              go_wp2_with fail
              go_roundw
              case rel => exact ⟨k + 1, T3, by omega, by go_num, HT8.out, HR8.out, HB8.out⟩
              case measure => simp [intOf]; omega
        have hk1b : (s.kind == 1) = false := by simp [hk1]
        by_cases hk2 : s.kind = 2
        · have hk2b : (s.kind != 2) = false := by simp [hk2]
          have HK := Lib.hid hk2
          have HTz := HT3
          have HRz := HR3
          have HBz := HB3
          clear hk2 hk1 HT3 HR3 HB3 HV3
          go_wp2_with fail
          refine (look_any h3 _ HTz.out (by omega) (by omega)).mono ?_
          rintro e w7 ⟨A7, c7, rfl, ho7, hb7⟩
          have HT7 := Lib.hid (HTz.out.below hb7)
          have HR7 := Lib.hid (HRz.out.below hb7)
          have HB7 := Lib.hid (below_next HBz.out HBz.out.size hb7)
          have hs7 := HB7.out.size
          have HN := Lib.hid (fun p hp => parts_less (T := T3) HTz.out.1 (h := h3) p hp)
          obtain ⟨⟨nk, nt, np⟩, hnd⟩ : ∃ nd, nodeT T3 h3 = nd := ⟨_, rfl⟩
          rw [hnd] at ho7 ⊢
          have HN' : Hid (∀ p ∈ np, 1 ≤ p ∧ p < h3) := by have := HN.out; rw [hnd] at this; exact this
          have HO7 := Lib.hid ho7
          have HF := Lib.hid (below_new (w := w7) (.cells #[.int .i64 nk, .string nt, .slice A7 np.length c7] 84))
          clear ho7 hb7 HN hnd HTz HRz HBz
          go_wp2_with fail
          obtain ⟨W, hW⟩ : ∃ W, W = w7.alloc (.cells #[.int .i64 nk, .string nt, .slice A7 np.length c7] 84) := ⟨_, rfl⟩
          have q2 : W.cell? ⟨w7.heap.size, 2, none⟩ = some (.slice A7 np.length c7) := by rw [hW]; simp [go_sem]
          rw [← hW] at HF ⊢
          clear hW
          have HT8 := Lib.hid (HT7.out.below HF.out)
          have HR8 := Lib.hid (HR7.out.below HF.out)
          have HB8 := Lib.hid (below_next HB7.out hs7 HF.out)
          have HO8 := Lib.hid (HO7.out.below HF.out)
          clear HT7 HR7 HB7 HO7
          go_loop [12] (fun i => ∃ m : Nat, m ≤ np.length ∧ i = .int .i64 m) (fun i => np.length - (intOf i).toNat)
          case atStart => exact ⟨0, Nat.zero_le _, rfl⟩
          case round =>
            obtain ⟨m, hm, rfl⟩ := hrel
            by_cases hmN : m < np.length
            · obtain ⟨g, cap, e1, -, hgl, hcap, hc, -, -⟩ := HO8.out.form (by omega)
              cases e1
              have hmx := (HO8.out.rds (B' := 0)).max
              have g1 := hc m hmN
              have hpm := HN'.out _ (nth_mem hmN)
              have hn1 : ¬ (h3 ≤ nth np m) := by omega
              have hn2 : ¬ (nth np m < 1) := by omega
              clear hc
              go_wp2_with fail
              go_round
              case rel => exact ⟨m + 1, by omega, by go_num⟩
              case measure => simp [intOf]; omega
            · obtain rfl : m = np.length := by omega
              go_wp2_with fail
              go_roundw
              case rel => exact ⟨k + 1, T3, by omega, by go_num, HT8.out, HR8.out, HB8.out⟩
              case measure => simp [intOf]; omega
        have hk2b : (s.kind != 2) = true := by simp [hk2]
        have HA : Hid (makeT T3 s.kind (partsT s.near T.length s.parts) = (T3, h3)) := by
          have := HE3.out
          unfold stepT at this
          rw [if_neg hk1, if_neg hk2] at this
          exact makeT_again HW2.out HT3.out.1 this HZ.out
        clear hk2 hk1
        go_wp2_with fail
        go_region_held3 (fun w' => w'.cell? ⟨b0, o0 + k * 4, none⟩ = some (.int .i64 s.kind)) (first | exact z5 | exact z6 | go_keep) ((first
          | (go_at_call 49
             refine (terms_any (B' := 0) A2 _ c2 (partsT s.near T.length s.parts) _ ((HV3.out.below ((Below.refl _ _).drew)).rds) (by omega)).mono ?_
             rintro e w5 ⟨v5, rfl, hv5, hb5⟩
             have z5 := cell_later hb5 (a := ⟨b0, o0 + k * 4, none⟩) x0
             obtain ⟨A5, c5, rfl⟩ := hv5.slice
             rw [hl2.out] at hv5 ⊢
             have HB5 : Hid (Below w3.heap.size w3 w5) := (Below.drew (Below.refl w3.heap.size w3)).trans hb5
             have HV5 := Lib.hid hv5
             clear hv5 hb5)
          | (go_at_call 41
             refine (make_any s.kind A5 _ c5 (partsT s.near T.length s.parts) w5 (HT3.out.below HB5.out) (HV5.out.rds (B' := 0)) HPX.out (by omega)).mono ?_
             rintro e w6 p6
             obtain ⟨rfl, ht6, hf6⟩ := p6.intro HA.out
             have z6 : w6.cell? ⟨b0, o0 + k * 4, none⟩ = some (.int .i64 s.kind) := by rw [Below.cell (hf6.below (by have := HB5.out.size; omega)) (by simpa using hlb)]; exact z5
             have HT6 := Lib.hid ht6
             have HF6 := Lib.hid hf6
             clear p6 ht6 hf6)
          | (go_at_call 44
             refine (size_any _ HT6.out).mono ?_
             rintro e w8 ⟨rfl, rfl⟩)))
        all_goals
          have HTz := HT6
          have HRz := Lib.hid ((HR3.out.below HB5.out).frm HF6.out (Nat.le_refl _) ref_tab tabO_sp)
          have HBz := Lib.hid ((below_next HB3.out hs3 HB5.out).trans (HF6.out.below (by have := HB5.out.size; omega)))
          clear HT3 HR3 HB3 HV3 HB5 HV5 HF6 HT6 z5 z6
          go_wp2_with fail
          refine (look_any h3 _ HTz.out (by omega) (by omega)).mono ?_
          rintro e w7 ⟨A7, c7, rfl, ho7, hb7⟩
          have HT7 := Lib.hid (HTz.out.below hb7)
          have HR7 := Lib.hid (HRz.out.below hb7)
          have HB7 := Lib.hid (below_next HBz.out HBz.out.size hb7)
          have hs7 := HB7.out.size
          have HN := Lib.hid (fun p hp => parts_less (T := T3) HTz.out.1 (h := h3) p hp)
          obtain ⟨⟨nk, nt, np⟩, hnd⟩ : ∃ nd, nodeT T3 h3 = nd := ⟨_, rfl⟩
          rw [hnd] at ho7 ⊢
          have HN' : Hid (∀ p ∈ np, 1 ≤ p ∧ p < h3) := by have := HN.out; rw [hnd] at this; exact this
          have HO7 := Lib.hid ho7
          have HF := Lib.hid (below_new (w := w7) (.cells #[.int .i64 nk, .string nt, .slice A7 np.length c7] 84))
          clear ho7 hb7 HN hnd HTz HRz HBz
          go_wp2_with fail
          obtain ⟨W, hW⟩ : ∃ W, W = w7.alloc (.cells #[.int .i64 nk, .string nt, .slice A7 np.length c7] 84) := ⟨_, rfl⟩
          have q2 : W.cell? ⟨w7.heap.size, 2, none⟩ = some (.slice A7 np.length c7) := by rw [hW]; simp [go_sem]
          rw [← hW] at HF ⊢
          clear hW
          have HT8 := Lib.hid (HT7.out.below HF.out)
          have HR8 := Lib.hid (HR7.out.below HF.out)
          have HB8 := Lib.hid (below_next HB7.out hs7 HF.out)
          have HO8 := Lib.hid (HO7.out.below HF.out)
          clear HT7 HR7 HB7 HO7
          go_loop [12] (fun i => ∃ m : Nat, m ≤ np.length ∧ i = .int .i64 m) (fun i => np.length - (intOf i).toNat)
          case atStart => exact ⟨0, Nat.zero_le _, rfl⟩
          case round =>
            obtain ⟨m, hm, rfl⟩ := hrel
            by_cases hmN : m < np.length
            · obtain ⟨g, cap, e1, -, hgl, hcap, hc, -, -⟩ := HO8.out.form (by omega)
              cases e1
              have hmx := (HO8.out.rds (B' := 0)).max
              have g1 := hc m hmN
              have hpm := HN'.out _ (nth_mem hmN)
              have hn1 : ¬ (h3 ≤ nth np m) := by omega
              have hn2 : ¬ (nth np m < 1) := by omega
              clear hc
              go_wp2_with fail
              go_round
              case rel => exact ⟨m + 1, by omega, by go_num⟩
              case measure => simp [intOf]; omega
            · obtain rfl : m = np.length := by omega
              go_wp2_with fail
              go_roundw
              case rel => exact ⟨k + 1, T3, by omega, by go_num, HT8.out, HR8.out, HB8.out⟩
              case measure => simp [intOf]; omega
    · go_wp2_with fail
      refine (awake02_any _).mono ?_
      rintro e w9 ⟨rfl, hb9⟩
      have HB9 := Lib.hid (below_next HB.out HB.out.size hb9)
      clear hb9
      go_wp2_with fail
      go_ret
      exact ⟨rfl, HB9.out⟩
theorem twice_row {A : Option Addr} {n c : Nat} (w : World) (h : ∃ S, SpsAt w.heap.size w A n S) : Calls Try.prog 10 #[.slice A n c] w fun e w' => e = .returned (.bool true) ∧ Below w.heap.size w w' := by
  obtain ⟨S, hS⟩ := h
  exact twice_walk w A n c S hS
end Go.Proofs.Ytoelbhmgmlnieaa
