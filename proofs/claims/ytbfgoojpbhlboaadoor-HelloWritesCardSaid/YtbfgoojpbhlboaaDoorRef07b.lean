/- Own texts, one behind the other. Each bears its own remark. -/
import Derived.Test.YtbfgoojpbhlboaaDoorParAt
import Derived.Test.YtbfgoojpbhlboaaDoorParOf
import Derived.Test.YtbfgoojpbhlboaaDoorTake
import Derived.Test.YtbfgoojpbhlboaaDoorBig05
import Derived.Test.YtbfgoojpbhlboaaDoorParRight
/- The reference of layer 7: name, field, Write. No condition. Printed by gen_ref07.py. -/
set_option linter.unusedVariables false
set_option linter.unusedSimpArgs false
namespace Go.Proofs.YtbfgoojpbhlboaaDoor
open Go Go.RowKit

set_option maxHeartbeats 800000 in
theorem rname_any (there : Bool) (A : Option Addr) (n c : Nat) (w : World) : Calls Tryd.prog 39 #[.bool there, .slice A n c] w fun e w' => e = .returned (.bool (namedN there n)) ∧ w = w' := by
  obtain ⟨r, hr⟩ : ∃ r, r = namedN there n := ⟨_, rfl⟩
  rw [← hr]
  have HR := Lib.hid hr
  clear hr
  go_enter Tryd.func39, Tryd.ntmps39
  by_cases h1 : n ≤ 20
  · have h1' : (n : Int) ≤ 20 := by omega
    cases there with
    | true =>
      go_wp2_with fail
      go_ret
      exact ⟨by rw [HR.out]; simp [namedN, h1], rfl⟩
    | false =>
      by_cases h0 : n = 0
      · subst h0
        go_wp2_with fail
        go_ret
        exact ⟨by rw [HR.out]; simp [namedN], rfl⟩
      · have hb : ((n : Int) == 0) = false := by rw [beq_eq_false_iff_ne]; omega
        go_wp2_with fail
        go_ret
        exact ⟨by rw [HR.out]; simp [namedN, h0], rfl⟩
  · have h1' : ¬ (n : Int) ≤ 20 := by omega
    go_wp2_with fail
    go_ret
    exact ⟨by rw [HR.out]; simp [namedN, h1], rfl⟩
set_option maxHeartbeats 1600000 in
set_option maxRecDepth 100000 in
theorem rfield_any {B : Nat} (N : Int) (A : Option Addr) (n c : Nat) (ys : List Int) (w : World) (h : Rds B w .u8 A n c ys) (hn : n ≤ 90000) :
    Calls Tryd.prog 48 #[.int .i64 N, .slice A n c] w (BytesPost (fieldB N ys) w) := by
  have HR := Lib.hid h
  have HL := Lib.hid h.len
  have key := rbytes_any N w
  clear h
  go_enter Tryd.func48, Tryd.ntmps48
  go_wp2_with fail
  refine key.mono ?_
  clear key
  rintro e w1 ⟨v1, rfl, ho, hb⟩
  have HO := Lib.hid ho
  have HB := Lib.hid hb
  have key := rgive_any A n c ys w1 (HR.out.below hb) (by omega)
  clear ho hb
  go_wp2_with fail
  refine key.mono ?_
  clear key
  rintro e w2 ⟨v2, rfl, ho, hb⟩
  obtain ⟨A2, c2, rfl⟩ := ho.slice
  have HO1 := Lib.hid (HO.out.below hb)
  have HB2 := Lib.hid (below_next HB.out HB.out.size hb)
  have HG := Lib.hid (ho.rds (B' := 0)).cell
  have l1 := Lib.hid (varB_len N)
  have s1 := Lib.hid (sizeV_le N)
  have hgl : (giveB ys).length ≤ 90008 := by
    have e1 := varB_len (ys.length : Int)
    have e2 := sizeV_le (ys.length : Int)
    have := HL.out
    unfold giveB
    rw [List.length_append]; omega
  obtain ⟨gl, hg⟩ : ∃ g, g = giveB ys := ⟨_, rfl⟩
  rw [← hg] at HG hgl ⊢
  have HGE := Lib.hid hg
  clear ho hb hg
  go_wp2_with (at_builtin; refine wp_app_u8 rfl _ _ rfl rfl rfl HO1.out HG.out rfl HB2.out.size (by have := l1.out; have := s1.out; omega) ?_)
  intro v5 w5 ho hg hb
  have HO5 := Lib.hid ho
  have HB5 := Lib.hid (HB2.out.trans hb)
  clear ho hg hb
  go_wp2_with fail
  go_ret
  refine ⟨_, rfl, ?_, HB5.out⟩
  have e : fieldB N ys = varB N ++ gl := by rw [HGE.out]; rfl
  rw [e]
  exact HO5.out
theorem fieldB_len (N : Int) (ys : List Int) : (fieldB N ys).length ≤ 16 + ys.length := by
  unfold fieldB giveB
  have e1 := varB_len N
  have e2 := sizeV_le N
  have e3 := varB_len (ys.length : Int)
  have e4 := sizeV_le (ys.length : Int)
  simp only [List.length_append]
  omega
theorem nameB_len (N : Int) (t : Bool) (ys : List Int) : (nameB N t ys).length ≤ 16 + ys.length := by
  unfold nameB
  split
  · exact fieldB_len N ys
  · simp
set_option maxHeartbeats 12800000 in
set_option maxRecDepth 100000 in
theorem rwrite_any {B : Nat} (p : Par) (s : ParS) (w : World) (h : ParAt B w p s) (hl : p.goal.length ≤ 50 ∧ p.own.length ≤ 50 ∧ p.retry.length ≤ 50 ∧ p.vs.length ≤ 30) (h0 : 0 ≤ p.chosen ∧ p.chosen ≤ 4294967295) (hv : ∀ v ∈ p.vs, 0 ≤ v ∧ v ≤ 4294967295) :
    Calls Tryd.prog 19 #[.agg (parCs p s)] w (BytesPost (writeB p) w) := by
  obtain ⟨W, hW⟩ : ∃ W, W = w.alloc (.cells (parCs p s) 25) := ⟨_, rfl⟩
  have hbw : Below w.heap.size w W := by rw [hW]; exact below_new _
  have HBW := Lib.hid hbw
  have HSW : Hid (W.heap.size = w.heap.size + 1) := by rw [hW]; show _ = _; simp
  have PD : Hid (ParD W w.heap.size p s) := by rw [hW]; exact heap_alloc_new w _
  have H := Lib.hid h
  have HL := Lib.hid hl
  have HC0 := Lib.hid h0
  have HVS := Lib.hid hv
  have HP : Hid (∀ w', Below W.heap.size W w' → ParD w' w.heap.size p s ∧ ParAt B w' p s) := fun w' hb => ⟨PD.out.later hb (by have := HSW.out; omega), H.out.below (HBW.out.trans (hb.mono HBW.out.size))⟩
  clear h hl h0 hv hbw
  unfold parCs at hW ⊢
  go_enter Tryd.func19, Tryd.ntmps19
  have b2 : W.cell? ⟨w.heap.size, 2, none⟩ = some (.bool p.hg) := PD.out.cell 2
  have b5 : W.cell? ⟨w.heap.size, 5, none⟩ = some (.slice s.gA p.goal.length s.gc) := PD.out.cell 5
  have b0 : W.cell? ⟨w.heap.size, 0, none⟩ = some (.int .i64 p.idle) := PD.out.cell 0
  have hs0 : Hid (OwnI W W.heap.size .u8 (.slice none 0 0) []) := OwnI.nil _ _ _
  have hb0 : Hid (Below W.heap.size W W) := Below.refl _ _
  have HPD := PD
  have HPA : Hid (ParAt B W p s) := (HP.out W (Below.refl _ _)).2
  obtain ⟨x0, hx0⟩ : ∃ x : List Int, x = [] := ⟨_, rfl⟩
  have HLN : Hid (x0.length ≤ 0) := by rw [hx0]; exact Nat.le_refl 0
  rw [← hx0] at hs0
  have HX0E := Lib.hid hx0
  clear b2 b5 b0 hx0
  have bh0 : W.cell? ⟨w.heap.size, 2, none⟩ = some (.bool p.hg) := HPD.out.cell 2
  have bs0 : W.cell? ⟨w.heap.size, 5, none⟩ = some (.slice s.gA p.goal.length s.gc) := HPD.out.cell 5
  cases ehg : p.hg
  · rw [ehg] at bh0
    have E0 := Lib.hid ehg
    clear ehg
    rw [E0.out] at hW
    rw [hW] at bh0 bs0
    have dummy := trivial
    have i1 : W.cell? ⟨w.heap.size, 0, none⟩ = some (.int .i64 p.idle) := HPD.out.cell 0
    have key := rbytes_any p.idle W
    obtain ⟨y1, hy1⟩ : ∃ y, y = varB p.idle := ⟨_, rfl⟩
    have hyl1 : y1.length ≤ 8 := by rw [hy1, varB_len]; exact sizeV_le _
    rw [← hy1] at key
    have HYE1 := Lib.hid hy1
    clear hy1
    go_wp2_with fail
    (try rw [← hW])
    (try clear hW bh0 bs0)
    refine key.mono ?_
    clear key i1
    rintro e w1 ⟨v1, rfl, ho, hb⟩
    obtain ⟨A1, c1, rfl⟩ := ho.slice
    have HX1 := Lib.hid (hs0.out.below hb)
    have HB1 : Hid (Below W.heap.size W w1) := below_next hb0.out hb0.out.size hb
    have HYR1 := Lib.hid (ho.rds (B' := 0))
    clear ho hb
    have key := rfield_any 1 A1 y1.length c1 y1 w1 HYR1.out (by omega)
    obtain ⟨f2, hf2⟩ : ∃ f, f = fieldB 1 y1 := ⟨_, rfl⟩
    have hfl2 : f2.length ≤ 16 + y1.length := by rw [hf2]; exact fieldB_len _ _
    rw [← hf2] at key
    have HF2 := Lib.hid hf2
    clear hf2
    go_wp2_with fail
    (try rw [← hW])
    (try clear hW bh0 bs0)
    refine key.mono ?_
    clear key
    rintro e w2 ⟨v2, rfl, ho, hb⟩
    obtain ⟨A2, c2, rfl⟩ := ho.slice
    have HX2 := Lib.hid (HX1.out.below hb)
    have HB2 : Hid (Below W.heap.size W w2) := below_next HB1.out HB1.out.size hb
    have HY2 := Lib.hid (ho.rds (B' := 0)).cell
    clear ho hb
    go_wp2_with (at_builtin; refine wp_app_u8 rfl _ _ rfl rfl rfl HX2.out HY2.out rfl HB2.out.size (by have := HLN.out; have := HL.out; omega) ?_)
    intro v3 w3 ho hg hb
    obtain ⟨x3, hx3⟩ : ∃ x, x = x0 ++ f2 := ⟨_, rfl⟩
    rw [← hx3] at ho
    have HXE3 := Lib.hid hx3
    have HLN' : Hid (x3.length ≤ 0 + 70) := by show _ ≤ _; rw [hx3, List.length_append]; have := HLN.out; have := HL.out; omega
    clear HLN
    have HLN := HLN'
    have HX3 := Lib.hid ho
    have HB3 : Hid (Below W.heap.size W w3) := HB2.out.trans hb
    obtain ⟨hpd, hpa⟩ := HP.out w3 HB3.out
    have HPD := Lib.hid hpd
    have HPA := Lib.hid hpa
    clear ho hg hb HLN' hx3 hpd hpa HX2 HY2
    have i4 : w3.cell? ⟨w.heap.size, 1, none⟩ = some (.int .i64 p.data) := HPD.out.cell 1
    have key := rbytes_any p.data w3
    obtain ⟨y4, hy4⟩ : ∃ y, y = varB p.data := ⟨_, rfl⟩
    have hyl4 : y4.length ≤ 8 := by rw [hy4, varB_len]; exact sizeV_le _
    rw [← hy4] at key
    have HYE4 := Lib.hid hy4
    clear hy4
    go_wp2_with fail
    (try rw [← hW])
    (try clear hW bh0 bs0)
    refine key.mono ?_
    clear key i4
    rintro e w4 ⟨v4, rfl, ho, hb⟩
    obtain ⟨A4, c4, rfl⟩ := ho.slice
    have HX4 := Lib.hid (HX3.out.below hb)
    have HB4 : Hid (Below W.heap.size W w4) := below_next HB3.out HB3.out.size hb
    have HYR4 := Lib.hid (ho.rds (B' := 0))
    clear ho hb
    have key := rfield_any 4 A4 y4.length c4 y4 w4 HYR4.out (by omega)
    obtain ⟨f5, hf5⟩ : ∃ f, f = fieldB 4 y4 := ⟨_, rfl⟩
    have hfl5 : f5.length ≤ 16 + y4.length := by rw [hf5]; exact fieldB_len _ _
    rw [← hf5] at key
    have HF5 := Lib.hid hf5
    clear hf5
    go_wp2_with fail
    (try rw [← hW])
    (try clear hW bh0 bs0)
    refine key.mono ?_
    clear key
    rintro e w5 ⟨v5, rfl, ho, hb⟩
    obtain ⟨A5, c5, rfl⟩ := ho.slice
    have HX5 := Lib.hid (HX4.out.below hb)
    have HB5 : Hid (Below W.heap.size W w5) := below_next HB4.out HB4.out.size hb
    have HY5 := Lib.hid (ho.rds (B' := 0)).cell
    clear ho hb
    go_wp2_with (at_builtin; refine wp_app_u8 rfl _ _ rfl rfl rfl HX5.out HY5.out rfl HB5.out.size (by have := HLN.out; have := HL.out; omega) ?_)
    intro v6 w6 ho hg hb
    obtain ⟨x6, hx6⟩ : ∃ x, x = x3 ++ f5 := ⟨_, rfl⟩
    rw [← hx6] at ho
    have HXE6 := Lib.hid hx6
    have HLN' : Hid (x6.length ≤ 70 + 70) := by show _ ≤ _; rw [hx6, List.length_append]; have := HLN.out; have := HL.out; omega
    clear HLN
    have HLN := HLN'
    have HX6 := Lib.hid ho
    have HB6 : Hid (Below W.heap.size W w6) := HB5.out.trans hb
    obtain ⟨hpd, hpa⟩ := HP.out w6 HB6.out
    have HPD := Lib.hid hpd
    have HPA := Lib.hid hpa
    clear ho hg hb HLN' hx6 hpd hpa HX5 HY5
    have bh3 : w6.cell? ⟨w.heap.size, 3, none⟩ = some (.bool p.ho) := HPD.out.cell 3
    have bs3 : w6.cell? ⟨w.heap.size, 6, none⟩ = some (.slice s.oA p.own.length s.oc) := HPD.out.cell 6
    cases eho : p.ho
    · rw [eho] at bh3
      have E3 := Lib.hid eho
      clear eho
      have bh4 : w6.cell? ⟨w.heap.size, 4, none⟩ = some (.bool p.hr) := HPD.out.cell 4
      have bs4 : w6.cell? ⟨w.heap.size, 7, none⟩ = some (.slice s.rA p.retry.length s.rc) := HPD.out.cell 7
      cases ehr : p.hr
      · rw [ehr] at bh4
        have E4 := Lib.hid ehr
        clear ehr
        have i8 : w6.cell? ⟨w.heap.size, 8, none⟩ = some (.int .i64 p.chosen) := HPD.out.cell 8
        have key := big05_any p.chosen 4 w6 (by decide) HC0.out.1 (by have := HC0.out.2; omega)
        rw [bigW_four] at key
        go_wp2_with fail
        refine key.mono ?_
        clear key i8
        (try clear bh3 bs3)
        (try clear bh4 bs4)
        rintro e w7 ⟨v7, rfl, ho, hb⟩
        have HV7 := Lib.hid ho
        have HX7 := Lib.hid (HX6.out.below hb)
        have HBk7 := Lib.hid hb
        have HS7 := Lib.hid (HB6.out)
        have i9 : w7.cell? ⟨w.heap.size, 9, none⟩ = some (.slice s.vA p.vs.length s.vc) := (HPD.out.later hb (lt_of_get HPD.out)).cell 9
        have HI9 := Lib.hid i9
        have hgw : w.heap.size < w6.heap.size := lt_of_get HPD.out
        clear ho hb i9
        go_wp2_with fail
        go_loopw [4, 5] (fun v i wr => ∃ k : Nat, k ≤ p.vs.length ∧ i = .int .i64 k ∧ OwnI wr w6.heap.size .u8 v (bigL (p.chosen :: p.vs.take k)) ∧ Below w6.heap.size w6 wr) (fun _ i _ => p.vs.length - (intOf i).toNat)
        case atStart => exact ⟨0, Nat.zero_le _, rfl, by have := HV7.out; simpa [bigL] using this, HBk7.out⟩
        case round =>
          obtain ⟨k, hk, rfl, hv, hb⟩ := hrel
          have HV := Lib.hid hv
          have HB := Lib.hid hb
          have HBr : Hid (Below W.heap.size W wr) := below_next HS7.out HS7.out.size hb
          have j9 : wr.cell? ⟨w.heap.size, 9, none⟩ = some (.slice s.vA p.vs.length s.vc) := (HPD.out.later hb hgw).cell 9
          clear hv hb
          have h30 : p.vs.length ≤ 30 := HL.out.2.2.2
          by_cases hlt : k < p.vs.length
          · have HR := Lib.hid ((HP.out wr HBr.out).2.vs)
            obtain ⟨b, o, hA, hcx⟩ := RdI.at_ HR.out.cell (by omega)
            have g1 := hcx k (by omega)
            clear hcx
            have hk0 : (0 : Int) ≤ (k : Int) := by omega
            have hk1 : (k : Int) < (p.vs.length : Int) := by omega
            have hvk := HVS.out _ (nth_mem hlt)
            have key := big05_any (nth p.vs k) 4 wr (by decide) hvk.1 (by have := hvk.2; omega)
            rw [bigW_four] at key
            rw [hA] at j9
            clear hvk hA
            go_wp2_with fail
            refine key.mono ?_
            clear key
            rintro e w8 ⟨v8, rfl, hv11, hb11⟩
            obtain ⟨A11, c11, rfl⟩ := hv11.slice
            have R11 := Lib.hid (hv11.rds (B' := 0)).cell
            have HV11 := Lib.hid (HV.out.below hb11)
            have HB11 := Lib.hid (below_next HB.out HB.out.size hb11)
            have hle : (bigL (p.chosen :: p.vs.take k)).length ≤ 1000 := by have := HL.out.2.2.2; rw [bigL_len]; simp; omega
            rw [bigB_len] at *
            clear hv11 hb11 g1
            go_wp2_with (at_builtin; refine wp_app_u8 rfl _ _ rfl rfl rfl HV11.out R11.out (bigB_len _) HB11.out.size (by omega) ?_)
            intro v' wz hvz hgz hbz
            have HVz : Hid (OwnI wz w6.heap.size .u8 v' (bigL (p.chosen :: p.vs.take (k + 1)))) := by
              rw [take_nth_succ hlt, ← List.cons_append, bigL_snoc]
              exact hvz
            have HBz := Lib.hid (HB11.out.trans hbz)
            clear hvz hgz hbz hle j9
            go_wp2_with fail
            go_roundw
            case rel => exact ⟨k + 1, by omega, by go_num, HVz.out, HBz.out⟩
            case measure => simp [intOf]; omega
          · obtain rfl : k = p.vs.length := by omega
            obtain ⟨A13, c13, rfl⟩ := HV.out.slice
            obtain ⟨ls, hls⟩ : ∃ ls, ls = bigL (p.chosen :: p.vs.take p.vs.length) := ⟨_, rfl⟩
            have hll : ls.length ≤ 1000 := by have := HL.out.2.2.2; rw [hls, bigL_len]; simp; omega
            have HLS := Lib.hid hls
            rw [← hls] at HV ⊢
            have HXr := Lib.hid (HX6.out.below HB.out)
            have key := rfield_any 17 A13 ls.length c13 ls wr (HV.out.rds (B' := 0)) (by omega)
            obtain ⟨fs, hfs⟩ : ∃ fs, fs = fieldB 17 ls := ⟨_, rfl⟩
            have hfl : fs.length ≤ 16 + ls.length := by rw [hfs]; exact fieldB_len _ _
            rw [← hfs] at key
            have HFS := Lib.hid hfs
            clear hls hfs
            go_wp2_with fail
            refine key.mono ?_
            clear key
            rintro e w14 ⟨v14, rfl, ho, hb⟩
            obtain ⟨A14, c14, rfl⟩ := ho.slice
            have HX14 := Lib.hid (HXr.out.below hb)
            have HB14 : Hid (Below W.heap.size W w14) := below_next HBr.out HBr.out.size hb
            have HY14 := Lib.hid (ho.rds (B' := 0)).cell
            clear ho hb
            go_wp2_with (at_builtin; refine wp_app_u8 rfl _ _ rfl rfl rfl HX14.out HY14.out rfl HB14.out.size (by have := HLN.out; omega) ?_)
            intro v15 w15 ho hg hb
            have HX15 := Lib.hid ho
            have HB15 := Lib.hid (HB14.out.trans hb)
            clear ho hg hb
            go_wp2_with fail
            go_ret
            refine ⟨_, rfl, ?_, HBW.out.trans (HB15.out.mono HBW.out.size)⟩
            have e : writeB p = x6 ++ fs := by
              unfold writeB
              simp only [HFS.out, HLS.out, List.take_length
              , HX0E.out, HF2.out, HXE3.out, HYE1.out, HF5.out, HXE6.out, HYE4.out]
              simp [nameB, E0.out, E3.out, E4.out]
            rw [e]
            exact HX15.out.mono HBW.out.size
      · rw [ehr] at bh4
        have E4 := Lib.hid ehr
        clear ehr
        have key := rfield_any 16 s.rA p.retry.length s.rc p.retry w6 (HPA.out.retry) (by have := HL.out; omega)
        obtain ⟨f11, hf11⟩ : ∃ f, f = fieldB 16 p.retry := ⟨_, rfl⟩
        have hfl11 : f11.length ≤ 16 + p.retry.length := by rw [hf11]; exact fieldB_len _ _
        rw [← hf11] at key
        have HF11 := Lib.hid hf11
        clear hf11
        go_wp2_with fail
        (try rw [← hW])
        (try clear hW bh0 bs0)
        refine key.mono ?_
        clear key
        rintro e w11 ⟨v11, rfl, ho, hb⟩
        obtain ⟨A11, c11, rfl⟩ := ho.slice
        have HX11 := Lib.hid (HX6.out.below hb)
        have HB11 : Hid (Below W.heap.size W w11) := below_next HB6.out HB6.out.size hb
        have HY11 := Lib.hid (ho.rds (B' := 0)).cell
        clear ho hb
        go_wp2_with (at_builtin; refine wp_app_u8 rfl _ _ rfl rfl rfl HX11.out HY11.out rfl HB11.out.size (by have := HLN.out; have := HL.out; omega) ?_)
        intro v12 w12 ho hg hb
        obtain ⟨x12, hx12⟩ : ∃ x, x = x6 ++ f11 := ⟨_, rfl⟩
        rw [← hx12] at ho
        have HXE12 := Lib.hid hx12
        have HLN' : Hid (x12.length ≤ 140 + 70) := by show _ ≤ _; rw [hx12, List.length_append]; have := HLN.out; have := HL.out; omega
        clear HLN
        have HLN := HLN'
        have HX12 := Lib.hid ho
        have HB12 : Hid (Below W.heap.size W w12) := HB11.out.trans hb
        obtain ⟨hpd, hpa⟩ := HP.out w12 HB12.out
        have HPD := Lib.hid hpd
        have HPA := Lib.hid hpa
        clear ho hg hb HLN' hx12 hpd hpa HX11 HY11
        (try clear bh4 bs4)
        have i8 : w12.cell? ⟨w.heap.size, 8, none⟩ = some (.int .i64 p.chosen) := HPD.out.cell 8
        have key := big05_any p.chosen 4 w12 (by decide) HC0.out.1 (by have := HC0.out.2; omega)
        rw [bigW_four] at key
        go_wp2_with fail
        refine key.mono ?_
        clear key i8
        (try clear bh3 bs3)
        (try clear bh4 bs4)
        rintro e w13 ⟨v13, rfl, ho, hb⟩
        have HV13 := Lib.hid ho
        have HX13 := Lib.hid (HX12.out.below hb)
        have HBk13 := Lib.hid hb
        have HS13 := Lib.hid (HB12.out)
        have i9 : w13.cell? ⟨w.heap.size, 9, none⟩ = some (.slice s.vA p.vs.length s.vc) := (HPD.out.later hb (lt_of_get HPD.out)).cell 9
        have HI9 := Lib.hid i9
        have hgw : w.heap.size < w12.heap.size := lt_of_get HPD.out
        clear ho hb i9
        go_wp2_with fail
        go_loopw [4, 5] (fun v i wr => ∃ k : Nat, k ≤ p.vs.length ∧ i = .int .i64 k ∧ OwnI wr w12.heap.size .u8 v (bigL (p.chosen :: p.vs.take k)) ∧ Below w12.heap.size w12 wr) (fun _ i _ => p.vs.length - (intOf i).toNat)
        case atStart => exact ⟨0, Nat.zero_le _, rfl, by have := HV13.out; simpa [bigL] using this, HBk13.out⟩
        case round =>
          obtain ⟨k, hk, rfl, hv, hb⟩ := hrel
          have HV := Lib.hid hv
          have HB := Lib.hid hb
          have HBr : Hid (Below W.heap.size W wr) := below_next HS13.out HS13.out.size hb
          have j9 : wr.cell? ⟨w.heap.size, 9, none⟩ = some (.slice s.vA p.vs.length s.vc) := (HPD.out.later hb hgw).cell 9
          clear hv hb
          have h30 : p.vs.length ≤ 30 := HL.out.2.2.2
          by_cases hlt : k < p.vs.length
          · have HR := Lib.hid ((HP.out wr HBr.out).2.vs)
            obtain ⟨b, o, hA, hcx⟩ := RdI.at_ HR.out.cell (by omega)
            have g1 := hcx k (by omega)
            clear hcx
            have hk0 : (0 : Int) ≤ (k : Int) := by omega
            have hk1 : (k : Int) < (p.vs.length : Int) := by omega
            have hvk := HVS.out _ (nth_mem hlt)
            have key := big05_any (nth p.vs k) 4 wr (by decide) hvk.1 (by have := hvk.2; omega)
            rw [bigW_four] at key
            rw [hA] at j9
            clear hvk hA
            go_wp2_with fail
            refine key.mono ?_
            clear key
            rintro e w14 ⟨v14, rfl, hv11, hb11⟩
            obtain ⟨A11, c11, rfl⟩ := hv11.slice
            have R11 := Lib.hid (hv11.rds (B' := 0)).cell
            have HV11 := Lib.hid (HV.out.below hb11)
            have HB11 := Lib.hid (below_next HB.out HB.out.size hb11)
            have hle : (bigL (p.chosen :: p.vs.take k)).length ≤ 1000 := by have := HL.out.2.2.2; rw [bigL_len]; simp; omega
            rw [bigB_len] at *
            clear hv11 hb11 g1
            go_wp2_with (at_builtin; refine wp_app_u8 rfl _ _ rfl rfl rfl HV11.out R11.out (bigB_len _) HB11.out.size (by omega) ?_)
            intro v' wz hvz hgz hbz
            have HVz : Hid (OwnI wz w12.heap.size .u8 v' (bigL (p.chosen :: p.vs.take (k + 1)))) := by
              rw [take_nth_succ hlt, ← List.cons_append, bigL_snoc]
              exact hvz
            have HBz := Lib.hid (HB11.out.trans hbz)
            clear hvz hgz hbz hle j9
            go_wp2_with fail
            go_roundw
            case rel => exact ⟨k + 1, by omega, by go_num, HVz.out, HBz.out⟩
            case measure => simp [intOf]; omega
          · obtain rfl : k = p.vs.length := by omega
            obtain ⟨A13, c13, rfl⟩ := HV.out.slice
            obtain ⟨ls, hls⟩ : ∃ ls, ls = bigL (p.chosen :: p.vs.take p.vs.length) := ⟨_, rfl⟩
            have hll : ls.length ≤ 1000 := by have := HL.out.2.2.2; rw [hls, bigL_len]; simp; omega
            have HLS := Lib.hid hls
            rw [← hls] at HV ⊢
            have HXr := Lib.hid (HX12.out.below HB.out)
            have key := rfield_any 17 A13 ls.length c13 ls wr (HV.out.rds (B' := 0)) (by omega)
            obtain ⟨fs, hfs⟩ : ∃ fs, fs = fieldB 17 ls := ⟨_, rfl⟩
            have hfl : fs.length ≤ 16 + ls.length := by rw [hfs]; exact fieldB_len _ _
            rw [← hfs] at key
            have HFS := Lib.hid hfs
            clear hls hfs
            go_wp2_with fail
            refine key.mono ?_
            clear key
            rintro e w14 ⟨v14, rfl, ho, hb⟩
            obtain ⟨A14, c14, rfl⟩ := ho.slice
            have HX14 := Lib.hid (HXr.out.below hb)
            have HB14 : Hid (Below W.heap.size W w14) := below_next HBr.out HBr.out.size hb
            have HY14 := Lib.hid (ho.rds (B' := 0)).cell
            clear ho hb
            go_wp2_with (at_builtin; refine wp_app_u8 rfl _ _ rfl rfl rfl HX14.out HY14.out rfl HB14.out.size (by have := HLN.out; omega) ?_)
            intro v15 w15 ho hg hb
            have HX15 := Lib.hid ho
            have HB15 := Lib.hid (HB14.out.trans hb)
            clear ho hg hb
            go_wp2_with fail
            go_ret
            refine ⟨_, rfl, ?_, HBW.out.trans (HB15.out.mono HBW.out.size)⟩
            have e : writeB p = x12 ++ fs := by
              unfold writeB
              simp only [HFS.out, HLS.out, List.take_length
              , HX0E.out, HF2.out, HXE3.out, HYE1.out, HF5.out, HXE6.out, HYE4.out, HF11.out, HXE12.out]
              simp [nameB, E0.out, E3.out, E4.out]
            rw [e]
            exact HX15.out.mono HBW.out.size
    · rw [eho] at bh3
      have E3 := Lib.hid eho
      clear eho
      have key := rfield_any 15 s.oA p.own.length s.oc p.own w6 (HPA.out.own) (by have := HL.out; omega)
      obtain ⟨f17, hf17⟩ : ∃ f, f = fieldB 15 p.own := ⟨_, rfl⟩
      have hfl17 : f17.length ≤ 16 + p.own.length := by rw [hf17]; exact fieldB_len _ _
      rw [← hf17] at key
      have HF17 := Lib.hid hf17
      clear hf17
      go_wp2_with fail
      (try rw [← hW])
      (try clear hW bh0 bs0)
      refine key.mono ?_
      clear key
      rintro e w17 ⟨v17, rfl, ho, hb⟩
      obtain ⟨A17, c17, rfl⟩ := ho.slice
      have HX17 := Lib.hid (HX6.out.below hb)
      have HB17 : Hid (Below W.heap.size W w17) := below_next HB6.out HB6.out.size hb
      have HY17 := Lib.hid (ho.rds (B' := 0)).cell
      clear ho hb
      go_wp2_with (at_builtin; refine wp_app_u8 rfl _ _ rfl rfl rfl HX17.out HY17.out rfl HB17.out.size (by have := HLN.out; have := HL.out; omega) ?_)
      intro v18 w18 ho hg hb
      obtain ⟨x18, hx18⟩ : ∃ x, x = x6 ++ f17 := ⟨_, rfl⟩
      rw [← hx18] at ho
      have HXE18 := Lib.hid hx18
      have HLN' : Hid (x18.length ≤ 140 + 70) := by show _ ≤ _; rw [hx18, List.length_append]; have := HLN.out; have := HL.out; omega
      clear HLN
      have HLN := HLN'
      have HX18 := Lib.hid ho
      have HB18 : Hid (Below W.heap.size W w18) := HB17.out.trans hb
      obtain ⟨hpd, hpa⟩ := HP.out w18 HB18.out
      have HPD := Lib.hid hpd
      have HPA := Lib.hid hpa
      clear ho hg hb HLN' hx18 hpd hpa HX17 HY17
      (try clear bh3 bs3)
      have bh4 : w18.cell? ⟨w.heap.size, 4, none⟩ = some (.bool p.hr) := HPD.out.cell 4
      have bs4 : w18.cell? ⟨w.heap.size, 7, none⟩ = some (.slice s.rA p.retry.length s.rc) := HPD.out.cell 7
      cases ehr : p.hr
      · rw [ehr] at bh4
        have E4 := Lib.hid ehr
        clear ehr
        have i8 : w18.cell? ⟨w.heap.size, 8, none⟩ = some (.int .i64 p.chosen) := HPD.out.cell 8
        have key := big05_any p.chosen 4 w18 (by decide) HC0.out.1 (by have := HC0.out.2; omega)
        rw [bigW_four] at key
        go_wp2_with fail
        refine key.mono ?_
        clear key i8
        (try clear bh3 bs3)
        (try clear bh4 bs4)
        rintro e w19 ⟨v19, rfl, ho, hb⟩
        have HV19 := Lib.hid ho
        have HX19 := Lib.hid (HX18.out.below hb)
        have HBk19 := Lib.hid hb
        have HS19 := Lib.hid (HB18.out)
        have i9 : w19.cell? ⟨w.heap.size, 9, none⟩ = some (.slice s.vA p.vs.length s.vc) := (HPD.out.later hb (lt_of_get HPD.out)).cell 9
        have HI9 := Lib.hid i9
        have hgw : w.heap.size < w18.heap.size := lt_of_get HPD.out
        clear ho hb i9
        go_wp2_with fail
        go_loopw [4, 5] (fun v i wr => ∃ k : Nat, k ≤ p.vs.length ∧ i = .int .i64 k ∧ OwnI wr w18.heap.size .u8 v (bigL (p.chosen :: p.vs.take k)) ∧ Below w18.heap.size w18 wr) (fun _ i _ => p.vs.length - (intOf i).toNat)
        case atStart => exact ⟨0, Nat.zero_le _, rfl, by have := HV19.out; simpa [bigL] using this, HBk19.out⟩
        case round =>
          obtain ⟨k, hk, rfl, hv, hb⟩ := hrel
          have HV := Lib.hid hv
          have HB := Lib.hid hb
          have HBr : Hid (Below W.heap.size W wr) := below_next HS19.out HS19.out.size hb
          have j9 : wr.cell? ⟨w.heap.size, 9, none⟩ = some (.slice s.vA p.vs.length s.vc) := (HPD.out.later hb hgw).cell 9
          clear hv hb
          have h30 : p.vs.length ≤ 30 := HL.out.2.2.2
          by_cases hlt : k < p.vs.length
          · have HR := Lib.hid ((HP.out wr HBr.out).2.vs)
            obtain ⟨b, o, hA, hcx⟩ := RdI.at_ HR.out.cell (by omega)
            have g1 := hcx k (by omega)
            clear hcx
            have hk0 : (0 : Int) ≤ (k : Int) := by omega
            have hk1 : (k : Int) < (p.vs.length : Int) := by omega
            have hvk := HVS.out _ (nth_mem hlt)
            have key := big05_any (nth p.vs k) 4 wr (by decide) hvk.1 (by have := hvk.2; omega)
            rw [bigW_four] at key
            rw [hA] at j9
            clear hvk hA
            go_wp2_with fail
            refine key.mono ?_
            clear key
            rintro e w20 ⟨v20, rfl, hv11, hb11⟩
            obtain ⟨A11, c11, rfl⟩ := hv11.slice
            have R11 := Lib.hid (hv11.rds (B' := 0)).cell
            have HV11 := Lib.hid (HV.out.below hb11)
            have HB11 := Lib.hid (below_next HB.out HB.out.size hb11)
            have hle : (bigL (p.chosen :: p.vs.take k)).length ≤ 1000 := by have := HL.out.2.2.2; rw [bigL_len]; simp; omega
            rw [bigB_len] at *
            clear hv11 hb11 g1
            go_wp2_with (at_builtin; refine wp_app_u8 rfl _ _ rfl rfl rfl HV11.out R11.out (bigB_len _) HB11.out.size (by omega) ?_)
            intro v' wz hvz hgz hbz
            have HVz : Hid (OwnI wz w18.heap.size .u8 v' (bigL (p.chosen :: p.vs.take (k + 1)))) := by
              rw [take_nth_succ hlt, ← List.cons_append, bigL_snoc]
              exact hvz
            have HBz := Lib.hid (HB11.out.trans hbz)
            clear hvz hgz hbz hle j9
            go_wp2_with fail
            go_roundw
            case rel => exact ⟨k + 1, by omega, by go_num, HVz.out, HBz.out⟩
            case measure => simp [intOf]; omega
          · obtain rfl : k = p.vs.length := by omega
            obtain ⟨A13, c13, rfl⟩ := HV.out.slice
            obtain ⟨ls, hls⟩ : ∃ ls, ls = bigL (p.chosen :: p.vs.take p.vs.length) := ⟨_, rfl⟩
            have hll : ls.length ≤ 1000 := by have := HL.out.2.2.2; rw [hls, bigL_len]; simp; omega
            have HLS := Lib.hid hls
            rw [← hls] at HV ⊢
            have HXr := Lib.hid (HX18.out.below HB.out)
            have key := rfield_any 17 A13 ls.length c13 ls wr (HV.out.rds (B' := 0)) (by omega)
            obtain ⟨fs, hfs⟩ : ∃ fs, fs = fieldB 17 ls := ⟨_, rfl⟩
            have hfl : fs.length ≤ 16 + ls.length := by rw [hfs]; exact fieldB_len _ _
            rw [← hfs] at key
            have HFS := Lib.hid hfs
            clear hls hfs
            go_wp2_with fail
            refine key.mono ?_
            clear key
            rintro e w14 ⟨v14, rfl, ho, hb⟩
            obtain ⟨A14, c14, rfl⟩ := ho.slice
            have HX14 := Lib.hid (HXr.out.below hb)
            have HB14 : Hid (Below W.heap.size W w14) := below_next HBr.out HBr.out.size hb
            have HY14 := Lib.hid (ho.rds (B' := 0)).cell
            clear ho hb
            go_wp2_with (at_builtin; refine wp_app_u8 rfl _ _ rfl rfl rfl HX14.out HY14.out rfl HB14.out.size (by have := HLN.out; omega) ?_)
            intro v15 w15 ho hg hb
            have HX15 := Lib.hid ho
            have HB15 := Lib.hid (HB14.out.trans hb)
            clear ho hg hb
            go_wp2_with fail
            go_ret
            refine ⟨_, rfl, ?_, HBW.out.trans (HB15.out.mono HBW.out.size)⟩
            have e : writeB p = x18 ++ fs := by
              unfold writeB
              simp only [HFS.out, HLS.out, List.take_length
              , HX0E.out, HF2.out, HXE3.out, HYE1.out, HF5.out, HXE6.out, HYE4.out, HF17.out, HXE18.out]
              simp [nameB, E0.out, E3.out, E4.out]
            rw [e]
            exact HX15.out.mono HBW.out.size
      · rw [ehr] at bh4
        have E4 := Lib.hid ehr
        clear ehr
        have key := rfield_any 16 s.rA p.retry.length s.rc p.retry w18 (HPA.out.retry) (by have := HL.out; omega)
        obtain ⟨f23, hf23⟩ : ∃ f, f = fieldB 16 p.retry := ⟨_, rfl⟩
        have hfl23 : f23.length ≤ 16 + p.retry.length := by rw [hf23]; exact fieldB_len _ _
        rw [← hf23] at key
        have HF23 := Lib.hid hf23
        clear hf23
        go_wp2_with fail
        (try rw [← hW])
        (try clear hW bh0 bs0)
        refine key.mono ?_
        clear key
        rintro e w23 ⟨v23, rfl, ho, hb⟩
        obtain ⟨A23, c23, rfl⟩ := ho.slice
        have HX23 := Lib.hid (HX18.out.below hb)
        have HB23 : Hid (Below W.heap.size W w23) := below_next HB18.out HB18.out.size hb
        have HY23 := Lib.hid (ho.rds (B' := 0)).cell
        clear ho hb
        go_wp2_with (at_builtin; refine wp_app_u8 rfl _ _ rfl rfl rfl HX23.out HY23.out rfl HB23.out.size (by have := HLN.out; have := HL.out; omega) ?_)
        intro v24 w24 ho hg hb
        obtain ⟨x24, hx24⟩ : ∃ x, x = x18 ++ f23 := ⟨_, rfl⟩
        rw [← hx24] at ho
        have HXE24 := Lib.hid hx24
        have HLN' : Hid (x24.length ≤ 210 + 70) := by show _ ≤ _; rw [hx24, List.length_append]; have := HLN.out; have := HL.out; omega
        clear HLN
        have HLN := HLN'
        have HX24 := Lib.hid ho
        have HB24 : Hid (Below W.heap.size W w24) := HB23.out.trans hb
        obtain ⟨hpd, hpa⟩ := HP.out w24 HB24.out
        have HPD := Lib.hid hpd
        have HPA := Lib.hid hpa
        clear ho hg hb HLN' hx24 hpd hpa HX23 HY23
        (try clear bh4 bs4)
        have i8 : w24.cell? ⟨w.heap.size, 8, none⟩ = some (.int .i64 p.chosen) := HPD.out.cell 8
        have key := big05_any p.chosen 4 w24 (by decide) HC0.out.1 (by have := HC0.out.2; omega)
        rw [bigW_four] at key
        go_wp2_with fail
        refine key.mono ?_
        clear key i8
        (try clear bh3 bs3)
        (try clear bh4 bs4)
        rintro e w25 ⟨v25, rfl, ho, hb⟩
        have HV25 := Lib.hid ho
        have HX25 := Lib.hid (HX24.out.below hb)
        have HBk25 := Lib.hid hb
        have HS25 := Lib.hid (HB24.out)
        have i9 : w25.cell? ⟨w.heap.size, 9, none⟩ = some (.slice s.vA p.vs.length s.vc) := (HPD.out.later hb (lt_of_get HPD.out)).cell 9
        have HI9 := Lib.hid i9
        have hgw : w.heap.size < w24.heap.size := lt_of_get HPD.out
        clear ho hb i9
        go_wp2_with fail
        go_loopw [4, 5] (fun v i wr => ∃ k : Nat, k ≤ p.vs.length ∧ i = .int .i64 k ∧ OwnI wr w24.heap.size .u8 v (bigL (p.chosen :: p.vs.take k)) ∧ Below w24.heap.size w24 wr) (fun _ i _ => p.vs.length - (intOf i).toNat)
        case atStart => exact ⟨0, Nat.zero_le _, rfl, by have := HV25.out; simpa [bigL] using this, HBk25.out⟩
        case round =>
          obtain ⟨k, hk, rfl, hv, hb⟩ := hrel
          have HV := Lib.hid hv
          have HB := Lib.hid hb
          have HBr : Hid (Below W.heap.size W wr) := below_next HS25.out HS25.out.size hb
          have j9 : wr.cell? ⟨w.heap.size, 9, none⟩ = some (.slice s.vA p.vs.length s.vc) := (HPD.out.later hb hgw).cell 9
          clear hv hb
          have h30 : p.vs.length ≤ 30 := HL.out.2.2.2
          by_cases hlt : k < p.vs.length
          · have HR := Lib.hid ((HP.out wr HBr.out).2.vs)
            obtain ⟨b, o, hA, hcx⟩ := RdI.at_ HR.out.cell (by omega)
            have g1 := hcx k (by omega)
            clear hcx
            have hk0 : (0 : Int) ≤ (k : Int) := by omega
            have hk1 : (k : Int) < (p.vs.length : Int) := by omega
            have hvk := HVS.out _ (nth_mem hlt)
            have key := big05_any (nth p.vs k) 4 wr (by decide) hvk.1 (by have := hvk.2; omega)
            rw [bigW_four] at key
            rw [hA] at j9
            clear hvk hA
            go_wp2_with fail
            refine key.mono ?_
            clear key
            rintro e w26 ⟨v26, rfl, hv11, hb11⟩
            obtain ⟨A11, c11, rfl⟩ := hv11.slice
            have R11 := Lib.hid (hv11.rds (B' := 0)).cell
            have HV11 := Lib.hid (HV.out.below hb11)
            have HB11 := Lib.hid (below_next HB.out HB.out.size hb11)
            have hle : (bigL (p.chosen :: p.vs.take k)).length ≤ 1000 := by have := HL.out.2.2.2; rw [bigL_len]; simp; omega
            rw [bigB_len] at *
            clear hv11 hb11 g1
            go_wp2_with (at_builtin; refine wp_app_u8 rfl _ _ rfl rfl rfl HV11.out R11.out (bigB_len _) HB11.out.size (by omega) ?_)
            intro v' wz hvz hgz hbz
            have HVz : Hid (OwnI wz w24.heap.size .u8 v' (bigL (p.chosen :: p.vs.take (k + 1)))) := by
              rw [take_nth_succ hlt, ← List.cons_append, bigL_snoc]
              exact hvz
            have HBz := Lib.hid (HB11.out.trans hbz)
            clear hvz hgz hbz hle j9
            go_wp2_with fail
            go_roundw
            case rel => exact ⟨k + 1, by omega, by go_num, HVz.out, HBz.out⟩
            case measure => simp [intOf]; omega
          · obtain rfl : k = p.vs.length := by omega
            obtain ⟨A13, c13, rfl⟩ := HV.out.slice
            obtain ⟨ls, hls⟩ : ∃ ls, ls = bigL (p.chosen :: p.vs.take p.vs.length) := ⟨_, rfl⟩
            have hll : ls.length ≤ 1000 := by have := HL.out.2.2.2; rw [hls, bigL_len]; simp; omega
            have HLS := Lib.hid hls
            rw [← hls] at HV ⊢
            have HXr := Lib.hid (HX24.out.below HB.out)
            have key := rfield_any 17 A13 ls.length c13 ls wr (HV.out.rds (B' := 0)) (by omega)
            obtain ⟨fs, hfs⟩ : ∃ fs, fs = fieldB 17 ls := ⟨_, rfl⟩
            have hfl : fs.length ≤ 16 + ls.length := by rw [hfs]; exact fieldB_len _ _
            rw [← hfs] at key
            have HFS := Lib.hid hfs
            clear hls hfs
            go_wp2_with fail
            refine key.mono ?_
            clear key
            rintro e w14 ⟨v14, rfl, ho, hb⟩
            obtain ⟨A14, c14, rfl⟩ := ho.slice
            have HX14 := Lib.hid (HXr.out.below hb)
            have HB14 : Hid (Below W.heap.size W w14) := below_next HBr.out HBr.out.size hb
            have HY14 := Lib.hid (ho.rds (B' := 0)).cell
            clear ho hb
            go_wp2_with (at_builtin; refine wp_app_u8 rfl _ _ rfl rfl rfl HX14.out HY14.out rfl HB14.out.size (by have := HLN.out; omega) ?_)
            intro v15 w15 ho hg hb
            have HX15 := Lib.hid ho
            have HB15 := Lib.hid (HB14.out.trans hb)
            clear ho hg hb
            go_wp2_with fail
            go_ret
            refine ⟨_, rfl, ?_, HBW.out.trans (HB15.out.mono HBW.out.size)⟩
            have e : writeB p = x24 ++ fs := by
              unfold writeB
              simp only [HFS.out, HLS.out, List.take_length
              , HX0E.out, HF2.out, HXE3.out, HYE1.out, HF5.out, HXE6.out, HYE4.out, HF17.out, HXE18.out, HF23.out, HXE24.out]
              simp [nameB, E0.out, E3.out, E4.out]
            rw [e]
            exact HX15.out.mono HBW.out.size
  · rw [ehg] at bh0
    have E0 := Lib.hid ehg
    clear ehg
    rw [E0.out] at hW
    rw [hW] at bh0 bs0
    have key := rfield_any 0 s.gA p.goal.length s.gc p.goal W (HPA.out.goal) (by have := HL.out; omega)
    obtain ⟨f29, hf29⟩ : ∃ f, f = fieldB 0 p.goal := ⟨_, rfl⟩
    have hfl29 : f29.length ≤ 16 + p.goal.length := by rw [hf29]; exact fieldB_len _ _
    rw [← hf29] at key
    have HF29 := Lib.hid hf29
    clear hf29
    go_wp2_with fail
    (try rw [← hW])
    (try clear hW bh0 bs0)
    refine key.mono ?_
    clear key
    rintro e w29 ⟨v29, rfl, ho, hb⟩
    obtain ⟨A29, c29, rfl⟩ := ho.slice
    have HX29 := Lib.hid (hs0.out.below hb)
    have HB29 : Hid (Below W.heap.size W w29) := below_next hb0.out hb0.out.size hb
    have HY29 := Lib.hid (ho.rds (B' := 0)).cell
    clear ho hb
    go_wp2_with (at_builtin; refine wp_app_u8 rfl _ _ rfl rfl rfl HX29.out HY29.out rfl HB29.out.size (by have := HLN.out; have := HL.out; omega) ?_)
    intro v30 w30 ho hg hb
    obtain ⟨x30, hx30⟩ : ∃ x, x = x0 ++ f29 := ⟨_, rfl⟩
    rw [← hx30] at ho
    have HXE30 := Lib.hid hx30
    have HLN' : Hid (x30.length ≤ 0 + 70) := by show _ ≤ _; rw [hx30, List.length_append]; have := HLN.out; have := HL.out; omega
    clear HLN
    have HLN := HLN'
    have HX30 := Lib.hid ho
    have HB30 : Hid (Below W.heap.size W w30) := HB29.out.trans hb
    obtain ⟨hpd, hpa⟩ := HP.out w30 HB30.out
    have HPD := Lib.hid hpd
    have HPA := Lib.hid hpa
    clear ho hg hb HLN' hx30 hpd hpa HX29 HY29
    (try clear bh0 bs0)
    have i31 : w30.cell? ⟨w.heap.size, 0, none⟩ = some (.int .i64 p.idle) := HPD.out.cell 0
    have key := rbytes_any p.idle w30
    obtain ⟨y31, hy31⟩ : ∃ y, y = varB p.idle := ⟨_, rfl⟩
    have hyl31 : y31.length ≤ 8 := by rw [hy31, varB_len]; exact sizeV_le _
    rw [← hy31] at key
    have HYE31 := Lib.hid hy31
    clear hy31
    go_wp2_with fail
    (try rw [← hW])
    (try clear hW bh0 bs0)
    refine key.mono ?_
    clear key i31
    rintro e w31 ⟨v31, rfl, ho, hb⟩
    obtain ⟨A31, c31, rfl⟩ := ho.slice
    have HX31 := Lib.hid (HX30.out.below hb)
    have HB31 : Hid (Below W.heap.size W w31) := below_next HB30.out HB30.out.size hb
    have HYR31 := Lib.hid (ho.rds (B' := 0))
    clear ho hb
    have key := rfield_any 1 A31 y31.length c31 y31 w31 HYR31.out (by omega)
    obtain ⟨f32, hf32⟩ : ∃ f, f = fieldB 1 y31 := ⟨_, rfl⟩
    have hfl32 : f32.length ≤ 16 + y31.length := by rw [hf32]; exact fieldB_len _ _
    rw [← hf32] at key
    have HF32 := Lib.hid hf32
    clear hf32
    go_wp2_with fail
    (try rw [← hW])
    (try clear hW bh0 bs0)
    refine key.mono ?_
    clear key
    rintro e w32 ⟨v32, rfl, ho, hb⟩
    obtain ⟨A32, c32, rfl⟩ := ho.slice
    have HX32 := Lib.hid (HX31.out.below hb)
    have HB32 : Hid (Below W.heap.size W w32) := below_next HB31.out HB31.out.size hb
    have HY32 := Lib.hid (ho.rds (B' := 0)).cell
    clear ho hb
    go_wp2_with (at_builtin; refine wp_app_u8 rfl _ _ rfl rfl rfl HX32.out HY32.out rfl HB32.out.size (by have := HLN.out; have := HL.out; omega) ?_)
    intro v33 w33 ho hg hb
    obtain ⟨x33, hx33⟩ : ∃ x, x = x30 ++ f32 := ⟨_, rfl⟩
    rw [← hx33] at ho
    have HXE33 := Lib.hid hx33
    have HLN' : Hid (x33.length ≤ 70 + 70) := by show _ ≤ _; rw [hx33, List.length_append]; have := HLN.out; have := HL.out; omega
    clear HLN
    have HLN := HLN'
    have HX33 := Lib.hid ho
    have HB33 : Hid (Below W.heap.size W w33) := HB32.out.trans hb
    obtain ⟨hpd, hpa⟩ := HP.out w33 HB33.out
    have HPD := Lib.hid hpd
    have HPA := Lib.hid hpa
    clear ho hg hb HLN' hx33 hpd hpa HX32 HY32
    have i34 : w33.cell? ⟨w.heap.size, 1, none⟩ = some (.int .i64 p.data) := HPD.out.cell 1
    have key := rbytes_any p.data w33
    obtain ⟨y34, hy34⟩ : ∃ y, y = varB p.data := ⟨_, rfl⟩
    have hyl34 : y34.length ≤ 8 := by rw [hy34, varB_len]; exact sizeV_le _
    rw [← hy34] at key
    have HYE34 := Lib.hid hy34
    clear hy34
    go_wp2_with fail
    (try rw [← hW])
    (try clear hW bh0 bs0)
    refine key.mono ?_
    clear key i34
    rintro e w34 ⟨v34, rfl, ho, hb⟩
    obtain ⟨A34, c34, rfl⟩ := ho.slice
    have HX34 := Lib.hid (HX33.out.below hb)
    have HB34 : Hid (Below W.heap.size W w34) := below_next HB33.out HB33.out.size hb
    have HYR34 := Lib.hid (ho.rds (B' := 0))
    clear ho hb
    have key := rfield_any 4 A34 y34.length c34 y34 w34 HYR34.out (by omega)
    obtain ⟨f35, hf35⟩ : ∃ f, f = fieldB 4 y34 := ⟨_, rfl⟩
    have hfl35 : f35.length ≤ 16 + y34.length := by rw [hf35]; exact fieldB_len _ _
    rw [← hf35] at key
    have HF35 := Lib.hid hf35
    clear hf35
    go_wp2_with fail
    (try rw [← hW])
    (try clear hW bh0 bs0)
    refine key.mono ?_
    clear key
    rintro e w35 ⟨v35, rfl, ho, hb⟩
    obtain ⟨A35, c35, rfl⟩ := ho.slice
    have HX35 := Lib.hid (HX34.out.below hb)
    have HB35 : Hid (Below W.heap.size W w35) := below_next HB34.out HB34.out.size hb
    have HY35 := Lib.hid (ho.rds (B' := 0)).cell
    clear ho hb
    go_wp2_with (at_builtin; refine wp_app_u8 rfl _ _ rfl rfl rfl HX35.out HY35.out rfl HB35.out.size (by have := HLN.out; have := HL.out; omega) ?_)
    intro v36 w36 ho hg hb
    obtain ⟨x36, hx36⟩ : ∃ x, x = x33 ++ f35 := ⟨_, rfl⟩
    rw [← hx36] at ho
    have HXE36 := Lib.hid hx36
    have HLN' : Hid (x36.length ≤ 140 + 70) := by show _ ≤ _; rw [hx36, List.length_append]; have := HLN.out; have := HL.out; omega
    clear HLN
    have HLN := HLN'
    have HX36 := Lib.hid ho
    have HB36 : Hid (Below W.heap.size W w36) := HB35.out.trans hb
    obtain ⟨hpd, hpa⟩ := HP.out w36 HB36.out
    have HPD := Lib.hid hpd
    have HPA := Lib.hid hpa
    clear ho hg hb HLN' hx36 hpd hpa HX35 HY35
    have bh3 : w36.cell? ⟨w.heap.size, 3, none⟩ = some (.bool p.ho) := HPD.out.cell 3
    have bs3 : w36.cell? ⟨w.heap.size, 6, none⟩ = some (.slice s.oA p.own.length s.oc) := HPD.out.cell 6
    cases eho : p.ho
    · rw [eho] at bh3
      have E3 := Lib.hid eho
      clear eho
      have bh4 : w36.cell? ⟨w.heap.size, 4, none⟩ = some (.bool p.hr) := HPD.out.cell 4
      have bs4 : w36.cell? ⟨w.heap.size, 7, none⟩ = some (.slice s.rA p.retry.length s.rc) := HPD.out.cell 7
      cases ehr : p.hr
      · rw [ehr] at bh4
        have E4 := Lib.hid ehr
        clear ehr
        have i8 : w36.cell? ⟨w.heap.size, 8, none⟩ = some (.int .i64 p.chosen) := HPD.out.cell 8
        have key := big05_any p.chosen 4 w36 (by decide) HC0.out.1 (by have := HC0.out.2; omega)
        rw [bigW_four] at key
        go_wp2_with fail
        refine key.mono ?_
        clear key i8
        (try clear bh3 bs3)
        (try clear bh4 bs4)
        rintro e w37 ⟨v37, rfl, ho, hb⟩
        have HV37 := Lib.hid ho
        have HX37 := Lib.hid (HX36.out.below hb)
        have HBk37 := Lib.hid hb
        have HS37 := Lib.hid (HB36.out)
        have i9 : w37.cell? ⟨w.heap.size, 9, none⟩ = some (.slice s.vA p.vs.length s.vc) := (HPD.out.later hb (lt_of_get HPD.out)).cell 9
        have HI9 := Lib.hid i9
        have hgw : w.heap.size < w36.heap.size := lt_of_get HPD.out
        clear ho hb i9
        go_wp2_with fail
        go_loopw [4, 5] (fun v i wr => ∃ k : Nat, k ≤ p.vs.length ∧ i = .int .i64 k ∧ OwnI wr w36.heap.size .u8 v (bigL (p.chosen :: p.vs.take k)) ∧ Below w36.heap.size w36 wr) (fun _ i _ => p.vs.length - (intOf i).toNat)
        case atStart => exact ⟨0, Nat.zero_le _, rfl, by have := HV37.out; simpa [bigL] using this, HBk37.out⟩
        case round =>
          obtain ⟨k, hk, rfl, hv, hb⟩ := hrel
          have HV := Lib.hid hv
          have HB := Lib.hid hb
          have HBr : Hid (Below W.heap.size W wr) := below_next HS37.out HS37.out.size hb
          have j9 : wr.cell? ⟨w.heap.size, 9, none⟩ = some (.slice s.vA p.vs.length s.vc) := (HPD.out.later hb hgw).cell 9
          clear hv hb
          have h30 : p.vs.length ≤ 30 := HL.out.2.2.2
          by_cases hlt : k < p.vs.length
          · have HR := Lib.hid ((HP.out wr HBr.out).2.vs)
            obtain ⟨b, o, hA, hcx⟩ := RdI.at_ HR.out.cell (by omega)
            have g1 := hcx k (by omega)
            clear hcx
            have hk0 : (0 : Int) ≤ (k : Int) := by omega
            have hk1 : (k : Int) < (p.vs.length : Int) := by omega
            have hvk := HVS.out _ (nth_mem hlt)
            have key := big05_any (nth p.vs k) 4 wr (by decide) hvk.1 (by have := hvk.2; omega)
            rw [bigW_four] at key
            rw [hA] at j9
            clear hvk hA
            go_wp2_with fail
            refine key.mono ?_
            clear key
            rintro e w38 ⟨v38, rfl, hv11, hb11⟩
            obtain ⟨A11, c11, rfl⟩ := hv11.slice
            have R11 := Lib.hid (hv11.rds (B' := 0)).cell
            have HV11 := Lib.hid (HV.out.below hb11)
            have HB11 := Lib.hid (below_next HB.out HB.out.size hb11)
            have hle : (bigL (p.chosen :: p.vs.take k)).length ≤ 1000 := by have := HL.out.2.2.2; rw [bigL_len]; simp; omega
            rw [bigB_len] at *
            clear hv11 hb11 g1
            go_wp2_with (at_builtin; refine wp_app_u8 rfl _ _ rfl rfl rfl HV11.out R11.out (bigB_len _) HB11.out.size (by omega) ?_)
            intro v' wz hvz hgz hbz
            have HVz : Hid (OwnI wz w36.heap.size .u8 v' (bigL (p.chosen :: p.vs.take (k + 1)))) := by
              rw [take_nth_succ hlt, ← List.cons_append, bigL_snoc]
              exact hvz
            have HBz := Lib.hid (HB11.out.trans hbz)
            clear hvz hgz hbz hle j9
            go_wp2_with fail
            go_roundw
            case rel => exact ⟨k + 1, by omega, by go_num, HVz.out, HBz.out⟩
            case measure => simp [intOf]; omega
          · obtain rfl : k = p.vs.length := by omega
            obtain ⟨A13, c13, rfl⟩ := HV.out.slice
            obtain ⟨ls, hls⟩ : ∃ ls, ls = bigL (p.chosen :: p.vs.take p.vs.length) := ⟨_, rfl⟩
            have hll : ls.length ≤ 1000 := by have := HL.out.2.2.2; rw [hls, bigL_len]; simp; omega
            have HLS := Lib.hid hls
            rw [← hls] at HV ⊢
            have HXr := Lib.hid (HX36.out.below HB.out)
            have key := rfield_any 17 A13 ls.length c13 ls wr (HV.out.rds (B' := 0)) (by omega)
            obtain ⟨fs, hfs⟩ : ∃ fs, fs = fieldB 17 ls := ⟨_, rfl⟩
            have hfl : fs.length ≤ 16 + ls.length := by rw [hfs]; exact fieldB_len _ _
            rw [← hfs] at key
            have HFS := Lib.hid hfs
            clear hls hfs
            go_wp2_with fail
            refine key.mono ?_
            clear key
            rintro e w14 ⟨v14, rfl, ho, hb⟩
            obtain ⟨A14, c14, rfl⟩ := ho.slice
            have HX14 := Lib.hid (HXr.out.below hb)
            have HB14 : Hid (Below W.heap.size W w14) := below_next HBr.out HBr.out.size hb
            have HY14 := Lib.hid (ho.rds (B' := 0)).cell
            clear ho hb
            go_wp2_with (at_builtin; refine wp_app_u8 rfl _ _ rfl rfl rfl HX14.out HY14.out rfl HB14.out.size (by have := HLN.out; omega) ?_)
            intro v15 w15 ho hg hb
            have HX15 := Lib.hid ho
            have HB15 := Lib.hid (HB14.out.trans hb)
            clear ho hg hb
            go_wp2_with fail
            go_ret
            refine ⟨_, rfl, ?_, HBW.out.trans (HB15.out.mono HBW.out.size)⟩
            have e : writeB p = x36 ++ fs := by
              unfold writeB
              simp only [HFS.out, HLS.out, List.take_length
              , HX0E.out, HF29.out, HXE30.out, HF32.out, HXE33.out, HYE31.out, HF35.out, HXE36.out, HYE34.out]
              simp [nameB, E0.out, E3.out, E4.out]
            rw [e]
            exact HX15.out.mono HBW.out.size
      · rw [ehr] at bh4
        have E4 := Lib.hid ehr
        clear ehr
        have key := rfield_any 16 s.rA p.retry.length s.rc p.retry w36 (HPA.out.retry) (by have := HL.out; omega)
        obtain ⟨f41, hf41⟩ : ∃ f, f = fieldB 16 p.retry := ⟨_, rfl⟩
        have hfl41 : f41.length ≤ 16 + p.retry.length := by rw [hf41]; exact fieldB_len _ _
        rw [← hf41] at key
        have HF41 := Lib.hid hf41
        clear hf41
        go_wp2_with fail
        (try rw [← hW])
        (try clear hW bh0 bs0)
        refine key.mono ?_
        clear key
        rintro e w41 ⟨v41, rfl, ho, hb⟩
        obtain ⟨A41, c41, rfl⟩ := ho.slice
        have HX41 := Lib.hid (HX36.out.below hb)
        have HB41 : Hid (Below W.heap.size W w41) := below_next HB36.out HB36.out.size hb
        have HY41 := Lib.hid (ho.rds (B' := 0)).cell
        clear ho hb
        go_wp2_with (at_builtin; refine wp_app_u8 rfl _ _ rfl rfl rfl HX41.out HY41.out rfl HB41.out.size (by have := HLN.out; have := HL.out; omega) ?_)
        intro v42 w42 ho hg hb
        obtain ⟨x42, hx42⟩ : ∃ x, x = x36 ++ f41 := ⟨_, rfl⟩
        rw [← hx42] at ho
        have HXE42 := Lib.hid hx42
        have HLN' : Hid (x42.length ≤ 210 + 70) := by show _ ≤ _; rw [hx42, List.length_append]; have := HLN.out; have := HL.out; omega
        clear HLN
        have HLN := HLN'
        have HX42 := Lib.hid ho
        have HB42 : Hid (Below W.heap.size W w42) := HB41.out.trans hb
        obtain ⟨hpd, hpa⟩ := HP.out w42 HB42.out
        have HPD := Lib.hid hpd
        have HPA := Lib.hid hpa
        clear ho hg hb HLN' hx42 hpd hpa HX41 HY41
        (try clear bh4 bs4)
        have i8 : w42.cell? ⟨w.heap.size, 8, none⟩ = some (.int .i64 p.chosen) := HPD.out.cell 8
        have key := big05_any p.chosen 4 w42 (by decide) HC0.out.1 (by have := HC0.out.2; omega)
        rw [bigW_four] at key
        go_wp2_with fail
        refine key.mono ?_
        clear key i8
        (try clear bh3 bs3)
        (try clear bh4 bs4)
        rintro e w43 ⟨v43, rfl, ho, hb⟩
        have HV43 := Lib.hid ho
        have HX43 := Lib.hid (HX42.out.below hb)
        have HBk43 := Lib.hid hb
        have HS43 := Lib.hid (HB42.out)
        have i9 : w43.cell? ⟨w.heap.size, 9, none⟩ = some (.slice s.vA p.vs.length s.vc) := (HPD.out.later hb (lt_of_get HPD.out)).cell 9
        have HI9 := Lib.hid i9
        have hgw : w.heap.size < w42.heap.size := lt_of_get HPD.out
        clear ho hb i9
        go_wp2_with fail
        go_loopw [4, 5] (fun v i wr => ∃ k : Nat, k ≤ p.vs.length ∧ i = .int .i64 k ∧ OwnI wr w42.heap.size .u8 v (bigL (p.chosen :: p.vs.take k)) ∧ Below w42.heap.size w42 wr) (fun _ i _ => p.vs.length - (intOf i).toNat)
        case atStart => exact ⟨0, Nat.zero_le _, rfl, by have := HV43.out; simpa [bigL] using this, HBk43.out⟩
        case round =>
          obtain ⟨k, hk, rfl, hv, hb⟩ := hrel
          have HV := Lib.hid hv
          have HB := Lib.hid hb
          have HBr : Hid (Below W.heap.size W wr) := below_next HS43.out HS43.out.size hb
          have j9 : wr.cell? ⟨w.heap.size, 9, none⟩ = some (.slice s.vA p.vs.length s.vc) := (HPD.out.later hb hgw).cell 9
          clear hv hb
          have h30 : p.vs.length ≤ 30 := HL.out.2.2.2
          by_cases hlt : k < p.vs.length
          · have HR := Lib.hid ((HP.out wr HBr.out).2.vs)
            obtain ⟨b, o, hA, hcx⟩ := RdI.at_ HR.out.cell (by omega)
            have g1 := hcx k (by omega)
            clear hcx
            have hk0 : (0 : Int) ≤ (k : Int) := by omega
            have hk1 : (k : Int) < (p.vs.length : Int) := by omega
            have hvk := HVS.out _ (nth_mem hlt)
            have key := big05_any (nth p.vs k) 4 wr (by decide) hvk.1 (by have := hvk.2; omega)
            rw [bigW_four] at key
            rw [hA] at j9
            clear hvk hA
            go_wp2_with fail
            refine key.mono ?_
            clear key
            rintro e w44 ⟨v44, rfl, hv11, hb11⟩
            obtain ⟨A11, c11, rfl⟩ := hv11.slice
            have R11 := Lib.hid (hv11.rds (B' := 0)).cell
            have HV11 := Lib.hid (HV.out.below hb11)
            have HB11 := Lib.hid (below_next HB.out HB.out.size hb11)
            have hle : (bigL (p.chosen :: p.vs.take k)).length ≤ 1000 := by have := HL.out.2.2.2; rw [bigL_len]; simp; omega
            rw [bigB_len] at *
            clear hv11 hb11 g1
            go_wp2_with (at_builtin; refine wp_app_u8 rfl _ _ rfl rfl rfl HV11.out R11.out (bigB_len _) HB11.out.size (by omega) ?_)
            intro v' wz hvz hgz hbz
            have HVz : Hid (OwnI wz w42.heap.size .u8 v' (bigL (p.chosen :: p.vs.take (k + 1)))) := by
              rw [take_nth_succ hlt, ← List.cons_append, bigL_snoc]
              exact hvz
            have HBz := Lib.hid (HB11.out.trans hbz)
            clear hvz hgz hbz hle j9
            go_wp2_with fail
            go_roundw
            case rel => exact ⟨k + 1, by omega, by go_num, HVz.out, HBz.out⟩
            case measure => simp [intOf]; omega
          · obtain rfl : k = p.vs.length := by omega
            obtain ⟨A13, c13, rfl⟩ := HV.out.slice
            obtain ⟨ls, hls⟩ : ∃ ls, ls = bigL (p.chosen :: p.vs.take p.vs.length) := ⟨_, rfl⟩
            have hll : ls.length ≤ 1000 := by have := HL.out.2.2.2; rw [hls, bigL_len]; simp; omega
            have HLS := Lib.hid hls
            rw [← hls] at HV ⊢
            have HXr := Lib.hid (HX42.out.below HB.out)
            have key := rfield_any 17 A13 ls.length c13 ls wr (HV.out.rds (B' := 0)) (by omega)
            obtain ⟨fs, hfs⟩ : ∃ fs, fs = fieldB 17 ls := ⟨_, rfl⟩
            have hfl : fs.length ≤ 16 + ls.length := by rw [hfs]; exact fieldB_len _ _
            rw [← hfs] at key
            have HFS := Lib.hid hfs
            clear hls hfs
            go_wp2_with fail
            refine key.mono ?_
            clear key
            rintro e w14 ⟨v14, rfl, ho, hb⟩
            obtain ⟨A14, c14, rfl⟩ := ho.slice
            have HX14 := Lib.hid (HXr.out.below hb)
            have HB14 : Hid (Below W.heap.size W w14) := below_next HBr.out HBr.out.size hb
            have HY14 := Lib.hid (ho.rds (B' := 0)).cell
            clear ho hb
            go_wp2_with (at_builtin; refine wp_app_u8 rfl _ _ rfl rfl rfl HX14.out HY14.out rfl HB14.out.size (by have := HLN.out; omega) ?_)
            intro v15 w15 ho hg hb
            have HX15 := Lib.hid ho
            have HB15 := Lib.hid (HB14.out.trans hb)
            clear ho hg hb
            go_wp2_with fail
            go_ret
            refine ⟨_, rfl, ?_, HBW.out.trans (HB15.out.mono HBW.out.size)⟩
            have e : writeB p = x42 ++ fs := by
              unfold writeB
              simp only [HFS.out, HLS.out, List.take_length
              , HX0E.out, HF29.out, HXE30.out, HF32.out, HXE33.out, HYE31.out, HF35.out, HXE36.out, HYE34.out, HF41.out, HXE42.out]
              simp [nameB, E0.out, E3.out, E4.out]
            rw [e]
            exact HX15.out.mono HBW.out.size
    · rw [eho] at bh3
      have E3 := Lib.hid eho
      clear eho
      have key := rfield_any 15 s.oA p.own.length s.oc p.own w36 (HPA.out.own) (by have := HL.out; omega)
      obtain ⟨f47, hf47⟩ : ∃ f, f = fieldB 15 p.own := ⟨_, rfl⟩
      have hfl47 : f47.length ≤ 16 + p.own.length := by rw [hf47]; exact fieldB_len _ _
      rw [← hf47] at key
      have HF47 := Lib.hid hf47
      clear hf47
      go_wp2_with fail
      (try rw [← hW])
      (try clear hW bh0 bs0)
      refine key.mono ?_
      clear key
      rintro e w47 ⟨v47, rfl, ho, hb⟩
      obtain ⟨A47, c47, rfl⟩ := ho.slice
      have HX47 := Lib.hid (HX36.out.below hb)
      have HB47 : Hid (Below W.heap.size W w47) := below_next HB36.out HB36.out.size hb
      have HY47 := Lib.hid (ho.rds (B' := 0)).cell
      clear ho hb
      go_wp2_with (at_builtin; refine wp_app_u8 rfl _ _ rfl rfl rfl HX47.out HY47.out rfl HB47.out.size (by have := HLN.out; have := HL.out; omega) ?_)
      intro v48 w48 ho hg hb
      obtain ⟨x48, hx48⟩ : ∃ x, x = x36 ++ f47 := ⟨_, rfl⟩
      rw [← hx48] at ho
      have HXE48 := Lib.hid hx48
      have HLN' : Hid (x48.length ≤ 210 + 70) := by show _ ≤ _; rw [hx48, List.length_append]; have := HLN.out; have := HL.out; omega
      clear HLN
      have HLN := HLN'
      have HX48 := Lib.hid ho
      have HB48 : Hid (Below W.heap.size W w48) := HB47.out.trans hb
      obtain ⟨hpd, hpa⟩ := HP.out w48 HB48.out
      have HPD := Lib.hid hpd
      have HPA := Lib.hid hpa
      clear ho hg hb HLN' hx48 hpd hpa HX47 HY47
      (try clear bh3 bs3)
      have bh4 : w48.cell? ⟨w.heap.size, 4, none⟩ = some (.bool p.hr) := HPD.out.cell 4
      have bs4 : w48.cell? ⟨w.heap.size, 7, none⟩ = some (.slice s.rA p.retry.length s.rc) := HPD.out.cell 7
      cases ehr : p.hr
      · rw [ehr] at bh4
        have E4 := Lib.hid ehr
        clear ehr
        have i8 : w48.cell? ⟨w.heap.size, 8, none⟩ = some (.int .i64 p.chosen) := HPD.out.cell 8
        have key := big05_any p.chosen 4 w48 (by decide) HC0.out.1 (by have := HC0.out.2; omega)
        rw [bigW_four] at key
        go_wp2_with fail
        refine key.mono ?_
        clear key i8
        (try clear bh3 bs3)
        (try clear bh4 bs4)
        rintro e w49 ⟨v49, rfl, ho, hb⟩
        have HV49 := Lib.hid ho
        have HX49 := Lib.hid (HX48.out.below hb)
        have HBk49 := Lib.hid hb
        have HS49 := Lib.hid (HB48.out)
        have i9 : w49.cell? ⟨w.heap.size, 9, none⟩ = some (.slice s.vA p.vs.length s.vc) := (HPD.out.later hb (lt_of_get HPD.out)).cell 9
        have HI9 := Lib.hid i9
        have hgw : w.heap.size < w48.heap.size := lt_of_get HPD.out
        clear ho hb i9
        go_wp2_with fail
        go_loopw [4, 5] (fun v i wr => ∃ k : Nat, k ≤ p.vs.length ∧ i = .int .i64 k ∧ OwnI wr w48.heap.size .u8 v (bigL (p.chosen :: p.vs.take k)) ∧ Below w48.heap.size w48 wr) (fun _ i _ => p.vs.length - (intOf i).toNat)
        case atStart => exact ⟨0, Nat.zero_le _, rfl, by have := HV49.out; simpa [bigL] using this, HBk49.out⟩
        case round =>
          obtain ⟨k, hk, rfl, hv, hb⟩ := hrel
          have HV := Lib.hid hv
          have HB := Lib.hid hb
          have HBr : Hid (Below W.heap.size W wr) := below_next HS49.out HS49.out.size hb
          have j9 : wr.cell? ⟨w.heap.size, 9, none⟩ = some (.slice s.vA p.vs.length s.vc) := (HPD.out.later hb hgw).cell 9
          clear hv hb
          have h30 : p.vs.length ≤ 30 := HL.out.2.2.2
          by_cases hlt : k < p.vs.length
          · have HR := Lib.hid ((HP.out wr HBr.out).2.vs)
            obtain ⟨b, o, hA, hcx⟩ := RdI.at_ HR.out.cell (by omega)
            have g1 := hcx k (by omega)
            clear hcx
            have hk0 : (0 : Int) ≤ (k : Int) := by omega
            have hk1 : (k : Int) < (p.vs.length : Int) := by omega
            have hvk := HVS.out _ (nth_mem hlt)
            have key := big05_any (nth p.vs k) 4 wr (by decide) hvk.1 (by have := hvk.2; omega)
            rw [bigW_four] at key
            rw [hA] at j9
            clear hvk hA
            go_wp2_with fail
            refine key.mono ?_
            clear key
            rintro e w50 ⟨v50, rfl, hv11, hb11⟩
            obtain ⟨A11, c11, rfl⟩ := hv11.slice
            have R11 := Lib.hid (hv11.rds (B' := 0)).cell
            have HV11 := Lib.hid (HV.out.below hb11)
            have HB11 := Lib.hid (below_next HB.out HB.out.size hb11)
            have hle : (bigL (p.chosen :: p.vs.take k)).length ≤ 1000 := by have := HL.out.2.2.2; rw [bigL_len]; simp; omega
            rw [bigB_len] at *
            clear hv11 hb11 g1
            go_wp2_with (at_builtin; refine wp_app_u8 rfl _ _ rfl rfl rfl HV11.out R11.out (bigB_len _) HB11.out.size (by omega) ?_)
            intro v' wz hvz hgz hbz
            have HVz : Hid (OwnI wz w48.heap.size .u8 v' (bigL (p.chosen :: p.vs.take (k + 1)))) := by
              rw [take_nth_succ hlt, ← List.cons_append, bigL_snoc]
              exact hvz
            have HBz := Lib.hid (HB11.out.trans hbz)
            clear hvz hgz hbz hle j9
            go_wp2_with fail
            go_roundw
            case rel => exact ⟨k + 1, by omega, by go_num, HVz.out, HBz.out⟩
            case measure => simp [intOf]; omega
          · obtain rfl : k = p.vs.length := by omega
            obtain ⟨A13, c13, rfl⟩ := HV.out.slice
            obtain ⟨ls, hls⟩ : ∃ ls, ls = bigL (p.chosen :: p.vs.take p.vs.length) := ⟨_, rfl⟩
            have hll : ls.length ≤ 1000 := by have := HL.out.2.2.2; rw [hls, bigL_len]; simp; omega
            have HLS := Lib.hid hls
            rw [← hls] at HV ⊢
            have HXr := Lib.hid (HX48.out.below HB.out)
            have key := rfield_any 17 A13 ls.length c13 ls wr (HV.out.rds (B' := 0)) (by omega)
            obtain ⟨fs, hfs⟩ : ∃ fs, fs = fieldB 17 ls := ⟨_, rfl⟩
            have hfl : fs.length ≤ 16 + ls.length := by rw [hfs]; exact fieldB_len _ _
            rw [← hfs] at key
            have HFS := Lib.hid hfs
            clear hls hfs
            go_wp2_with fail
            refine key.mono ?_
            clear key
            rintro e w14 ⟨v14, rfl, ho, hb⟩
            obtain ⟨A14, c14, rfl⟩ := ho.slice
            have HX14 := Lib.hid (HXr.out.below hb)
            have HB14 : Hid (Below W.heap.size W w14) := below_next HBr.out HBr.out.size hb
            have HY14 := Lib.hid (ho.rds (B' := 0)).cell
            clear ho hb
            go_wp2_with (at_builtin; refine wp_app_u8 rfl _ _ rfl rfl rfl HX14.out HY14.out rfl HB14.out.size (by have := HLN.out; omega) ?_)
            intro v15 w15 ho hg hb
            have HX15 := Lib.hid ho
            have HB15 := Lib.hid (HB14.out.trans hb)
            clear ho hg hb
            go_wp2_with fail
            go_ret
            refine ⟨_, rfl, ?_, HBW.out.trans (HB15.out.mono HBW.out.size)⟩
            have e : writeB p = x48 ++ fs := by
              unfold writeB
              simp only [HFS.out, HLS.out, List.take_length
              , HX0E.out, HF29.out, HXE30.out, HF32.out, HXE33.out, HYE31.out, HF35.out, HXE36.out, HYE34.out, HF47.out, HXE48.out]
              simp [nameB, E0.out, E3.out, E4.out]
            rw [e]
            exact HX15.out.mono HBW.out.size
      · rw [ehr] at bh4
        have E4 := Lib.hid ehr
        clear ehr
        have key := rfield_any 16 s.rA p.retry.length s.rc p.retry w48 (HPA.out.retry) (by have := HL.out; omega)
        obtain ⟨f53, hf53⟩ : ∃ f, f = fieldB 16 p.retry := ⟨_, rfl⟩
        have hfl53 : f53.length ≤ 16 + p.retry.length := by rw [hf53]; exact fieldB_len _ _
        rw [← hf53] at key
        have HF53 := Lib.hid hf53
        clear hf53
        go_wp2_with fail
        (try rw [← hW])
        (try clear hW bh0 bs0)
        refine key.mono ?_
        clear key
        rintro e w53 ⟨v53, rfl, ho, hb⟩
        obtain ⟨A53, c53, rfl⟩ := ho.slice
        have HX53 := Lib.hid (HX48.out.below hb)
        have HB53 : Hid (Below W.heap.size W w53) := below_next HB48.out HB48.out.size hb
        have HY53 := Lib.hid (ho.rds (B' := 0)).cell
        clear ho hb
        go_wp2_with (at_builtin; refine wp_app_u8 rfl _ _ rfl rfl rfl HX53.out HY53.out rfl HB53.out.size (by have := HLN.out; have := HL.out; omega) ?_)
        intro v54 w54 ho hg hb
        obtain ⟨x54, hx54⟩ : ∃ x, x = x48 ++ f53 := ⟨_, rfl⟩
        rw [← hx54] at ho
        have HXE54 := Lib.hid hx54
        have HLN' : Hid (x54.length ≤ 280 + 70) := by show _ ≤ _; rw [hx54, List.length_append]; have := HLN.out; have := HL.out; omega
        clear HLN
        have HLN := HLN'
        have HX54 := Lib.hid ho
        have HB54 : Hid (Below W.heap.size W w54) := HB53.out.trans hb
        obtain ⟨hpd, hpa⟩ := HP.out w54 HB54.out
        have HPD := Lib.hid hpd
        have HPA := Lib.hid hpa
        clear ho hg hb HLN' hx54 hpd hpa HX53 HY53
        (try clear bh4 bs4)
        have i8 : w54.cell? ⟨w.heap.size, 8, none⟩ = some (.int .i64 p.chosen) := HPD.out.cell 8
        have key := big05_any p.chosen 4 w54 (by decide) HC0.out.1 (by have := HC0.out.2; omega)
        rw [bigW_four] at key
        go_wp2_with fail
        refine key.mono ?_
        clear key i8
        (try clear bh3 bs3)
        (try clear bh4 bs4)
        rintro e w55 ⟨v55, rfl, ho, hb⟩
        have HV55 := Lib.hid ho
        have HX55 := Lib.hid (HX54.out.below hb)
        have HBk55 := Lib.hid hb
        have HS55 := Lib.hid (HB54.out)
        have i9 : w55.cell? ⟨w.heap.size, 9, none⟩ = some (.slice s.vA p.vs.length s.vc) := (HPD.out.later hb (lt_of_get HPD.out)).cell 9
        have HI9 := Lib.hid i9
        have hgw : w.heap.size < w54.heap.size := lt_of_get HPD.out
        clear ho hb i9
        go_wp2_with fail
        go_loopw [4, 5] (fun v i wr => ∃ k : Nat, k ≤ p.vs.length ∧ i = .int .i64 k ∧ OwnI wr w54.heap.size .u8 v (bigL (p.chosen :: p.vs.take k)) ∧ Below w54.heap.size w54 wr) (fun _ i _ => p.vs.length - (intOf i).toNat)
        case atStart => exact ⟨0, Nat.zero_le _, rfl, by have := HV55.out; simpa [bigL] using this, HBk55.out⟩
        case round =>
          obtain ⟨k, hk, rfl, hv, hb⟩ := hrel
          have HV := Lib.hid hv
          have HB := Lib.hid hb
          have HBr : Hid (Below W.heap.size W wr) := below_next HS55.out HS55.out.size hb
          have j9 : wr.cell? ⟨w.heap.size, 9, none⟩ = some (.slice s.vA p.vs.length s.vc) := (HPD.out.later hb hgw).cell 9
          clear hv hb
          have h30 : p.vs.length ≤ 30 := HL.out.2.2.2
          by_cases hlt : k < p.vs.length
          · have HR := Lib.hid ((HP.out wr HBr.out).2.vs)
            obtain ⟨b, o, hA, hcx⟩ := RdI.at_ HR.out.cell (by omega)
            have g1 := hcx k (by omega)
            clear hcx
            have hk0 : (0 : Int) ≤ (k : Int) := by omega
            have hk1 : (k : Int) < (p.vs.length : Int) := by omega
            have hvk := HVS.out _ (nth_mem hlt)
            have key := big05_any (nth p.vs k) 4 wr (by decide) hvk.1 (by have := hvk.2; omega)
            rw [bigW_four] at key
            rw [hA] at j9
            clear hvk hA
            go_wp2_with fail
            refine key.mono ?_
            clear key
            rintro e w56 ⟨v56, rfl, hv11, hb11⟩
            obtain ⟨A11, c11, rfl⟩ := hv11.slice
            have R11 := Lib.hid (hv11.rds (B' := 0)).cell
            have HV11 := Lib.hid (HV.out.below hb11)
            have HB11 := Lib.hid (below_next HB.out HB.out.size hb11)
            have hle : (bigL (p.chosen :: p.vs.take k)).length ≤ 1000 := by have := HL.out.2.2.2; rw [bigL_len]; simp; omega
            rw [bigB_len] at *
            clear hv11 hb11 g1
            go_wp2_with (at_builtin; refine wp_app_u8 rfl _ _ rfl rfl rfl HV11.out R11.out (bigB_len _) HB11.out.size (by omega) ?_)
            intro v' wz hvz hgz hbz
            have HVz : Hid (OwnI wz w54.heap.size .u8 v' (bigL (p.chosen :: p.vs.take (k + 1)))) := by
              rw [take_nth_succ hlt, ← List.cons_append, bigL_snoc]
              exact hvz
            have HBz := Lib.hid (HB11.out.trans hbz)
            clear hvz hgz hbz hle j9
            go_wp2_with fail
            go_roundw
            case rel => exact ⟨k + 1, by omega, by go_num, HVz.out, HBz.out⟩
            case measure => simp [intOf]; omega
          · obtain rfl : k = p.vs.length := by omega
            obtain ⟨A13, c13, rfl⟩ := HV.out.slice
            obtain ⟨ls, hls⟩ : ∃ ls, ls = bigL (p.chosen :: p.vs.take p.vs.length) := ⟨_, rfl⟩
            have hll : ls.length ≤ 1000 := by have := HL.out.2.2.2; rw [hls, bigL_len]; simp; omega
            have HLS := Lib.hid hls
            rw [← hls] at HV ⊢
            have HXr := Lib.hid (HX54.out.below HB.out)
            have key := rfield_any 17 A13 ls.length c13 ls wr (HV.out.rds (B' := 0)) (by omega)
            obtain ⟨fs, hfs⟩ : ∃ fs, fs = fieldB 17 ls := ⟨_, rfl⟩
            have hfl : fs.length ≤ 16 + ls.length := by rw [hfs]; exact fieldB_len _ _
            rw [← hfs] at key
            have HFS := Lib.hid hfs
            clear hls hfs
            go_wp2_with fail
            refine key.mono ?_
            clear key
            rintro e w14 ⟨v14, rfl, ho, hb⟩
            obtain ⟨A14, c14, rfl⟩ := ho.slice
            have HX14 := Lib.hid (HXr.out.below hb)
            have HB14 : Hid (Below W.heap.size W w14) := below_next HBr.out HBr.out.size hb
            have HY14 := Lib.hid (ho.rds (B' := 0)).cell
            clear ho hb
            go_wp2_with (at_builtin; refine wp_app_u8 rfl _ _ rfl rfl rfl HX14.out HY14.out rfl HB14.out.size (by have := HLN.out; omega) ?_)
            intro v15 w15 ho hg hb
            have HX15 := Lib.hid ho
            have HB15 := Lib.hid (HB14.out.trans hb)
            clear ho hg hb
            go_wp2_with fail
            go_ret
            refine ⟨_, rfl, ?_, HBW.out.trans (HB15.out.mono HBW.out.size)⟩
            have e : writeB p = x54 ++ fs := by
              unfold writeB
              simp only [HFS.out, HLS.out, List.take_length
              , HX0E.out, HF29.out, HXE30.out, HF32.out, HXE33.out, HYE31.out, HF35.out, HXE36.out, HYE34.out, HF47.out, HXE48.out, HF53.out, HXE54.out]
              simp [nameB, E0.out, E3.out, E4.out]
            rw [e]
            exact HX15.out.mono HBW.out.size
end Go.Proofs.YtbfgoojpbhlboaaDoor

/- The reference of layer 7: Right. No condition. -/
set_option linter.unusedVariables false
set_option linter.unusedSimpArgs false
namespace Go.Proofs.YtbfgoojpbhlboaaDoor
open Go Go.RowKit

set_option maxHeartbeats 6400000 in
set_option maxRecDepth 100000 in
theorem rright_any {B : Nat} (p : Par) (s : ParS) (w : World) (h : ParAt B w p s) (hlen : p.vs.length ≤ 1000) :
    Calls Tryd.prog 15 #[.agg (parCs p s)] w (RightPost p w) := by
  obtain ⟨D, hD⟩ : ∃ D, D = decide (rightP p) := ⟨_, rfl⟩
  have HD0 := Lib.hid hD
  unfold RightPost
  rw [← hD]
  clear hD
  obtain ⟨W, hW⟩ : ∃ W, W = w.alloc (.cells (parCs p s) 25) := ⟨_, rfl⟩
  have hbw : Below w.heap.size w W := by rw [hW]; exact below_new _
  have HBW := Lib.hid hbw
  have PD : Hid (ParD W w.heap.size p s) := by rw [hW]; exact heap_alloc_new w _
  have HV := Lib.hid (h.vs.below hbw)
  clear h hbw
  unfold parCs at hW ⊢
  go_enter Tryd.func15, Tryd.ntmps15
  subst hW
  by_cases d1 : sizeV p.idle = 0
  · have HE : Hid (D = false) := by rw [HD0.out]; exact decide_eq_false fun k => k.1.1 d1
    have e1 : (((sizeV p.idle : Nat) : Int) == 0) = true := by simp [d1]
    clear d1
    go_wp2_with (go_at_call 38; refine (rsize_any _ _).mono ?_; rintro e w' ⟨rfl, hw⟩; subst hw)
    go_ret
    rw [HE.out]
    exact ⟨rfl, HBW.out⟩
  have e1 : (((sizeV p.idle : Nat) : Int) == 0) = false := by simp [d1]
  have D1 := Lib.hid d1; clear d1
  by_cases d2 : sizeV p.data = 0
  · have HE : Hid (D = false) := by rw [HD0.out]; exact decide_eq_false fun k => k.1.2.1 d2
    have e2 : (((sizeV p.data : Nat) : Int) == 0) = true := by simp [d2]
    clear d2
    go_wp2_with (go_at_call 38; refine (rsize_any _ _).mono ?_; rintro e w' ⟨rfl, hw⟩; subst hw)
    go_ret
    rw [HE.out]
    exact ⟨rfl, HBW.out⟩
  have e2 : (((sizeV p.data : Nat) : Int) == 0) = false := by simp [d2]
  have D2 := Lib.hid d2; clear d2
  by_cases d3 : 1 ≤ p.chosen
  rotate_left
  · have HE : Hid (D = false) := by rw [HD0.out]; exact decide_eq_false fun k => d3 k.1.2.2.1
    go_wp2_with (go_at_call 38; refine (rsize_any _ _).mono ?_; rintro e w' ⟨rfl, hw⟩; subst hw)
    go_ret
    rw [HE.out]
    exact ⟨rfl, HBW.out⟩
  by_cases d4 : p.chosen ≤ 4294967295
  rotate_left
  · have HE : Hid (D = false) := by rw [HD0.out]; exact decide_eq_false fun k => d4 (by have := k.1.2.2.2; omega)
    go_wp2_with (go_at_call 38; refine (rsize_any _ _).mono ?_; rintro e w' ⟨rfl, hw⟩; subst hw)
    go_ret
    rw [HE.out]
    exact ⟨rfl, HBW.out⟩
  have D3 : Hid (verOk p.chosen) := ⟨d3, by omega⟩
  by_cases d5 : p.vs.length ≤ 16
  rotate_left
  · have HE : Hid (D = false) := by rw [HD0.out]; exact decide_eq_false fun k => d5 k.2.2.1
    go_wp2_with (go_at_call 38; refine (rsize_any _ _).mono ?_; rintro e w' ⟨rfl, hw⟩; subst hw)
    go_ret
    rw [HE.out]
    exact ⟨rfl, HBW.out⟩
  have D5 := Lib.hid d5
  go_wp2_with (go_at_call 38; refine (rsize_any _ _).mono ?_; rintro e w' ⟨rfl, hw⟩; subst hw)
  clear e1 e2 d3 d4
  obtain ⟨W, hW⟩ : ∃ W, W = w.alloc (.cells #[.int .i64 p.idle, .int .i64 p.data, .bool p.hg, .bool p.ho, .bool p.hr, .slice s.gA p.goal.length s.gc, .slice s.oA p.own.length s.oc, .slice s.rA p.retry.length s.rc, .int .i64 p.chosen, .slice s.vA p.vs.length s.vc] 25) := ⟨_, rfl⟩
  have HBW' : Hid (Below w.heap.size w W) := by rw [hW]; exact HBW.out
  have PD' : Hid (ParD W w.heap.size p s) := by rw [hW]; exact PD.out
  have HV' : Hid (Rds B W .i64 s.vA p.vs.length s.vc p.vs) := by rw [hW]; exact HV.out
  rw [← hW]
  clear hW HBW PD HV
  have b9 : W.cell? ⟨w.heap.size, 9, none⟩ = some (.slice s.vA p.vs.length s.vc) := PD'.out.cell 9
  obtain ⟨n, hn⟩ : ∃ n, n = p.vs.length := ⟨_, rfl⟩
  have HN := Lib.hid hn
  rw [← hn] at b9 d5 ⊢
  clear hn hlen
  go_loopw [3] (fun i wr => ∃ k : Nat, k ≤ n ∧ i = .int .i64 k ∧ Hid (∀ i, i < k → verOk (nth p.vs i) ∧ ∀ j, j < i → nth p.vs j ≠ nth p.vs i) ∧ ∃ q, wr = W.drewN q) (fun i _ => n - (intOf i).toNat)
  case atStart => exact ⟨0, Nat.zero_le _, rfl, fun i hi => by omega, 0, rfl⟩
  case round =>
    obtain ⟨k, hk, rfl, hq, q, rfl⟩ := hrel
    by_cases hlt : k < n
    · obtain ⟨b, o, hA, hcx⟩ := RdI.at_ HV'.out.cell (by have := HN.out; omega)
      have hcx' : Hid (∀ j, j < n → W.cell? ⟨b, o + j, none⟩ = some (.int .i64 (nth p.vs j))) := fun j hj => hcx j (by have := HN.out; omega)
      have g1 := hcx'.out k hlt
      rw [hA] at b9
      have hk1 : (k : Int) < (n : Int) := by omega
      have hk0 : (0 : Int) ≤ (k : Int) := by omega
      clear hcx hA
      by_cases m1 : 1 ≤ nth p.vs k
      rotate_left
      · have HE : Hid (D = false) := by
          show _ = _
          rw [HD0.out]; exact decide_eq_false fun x => m1 (x.2.2.2.1 _ (nth_mem (by have := HN.out; omega))).1
        go_wp2_with fail
        go_ret
        rw [HE.out]
        exact ⟨rfl, below_drewN HBW'.out _⟩
      by_cases m2 : nth p.vs k ≤ 4294967295
      rotate_left
      · have HE : Hid (D = false) := by
          show _ = _
          rw [HD0.out]; exact decide_eq_false fun x => m2 (by have := (x.2.2.2.1 _ (nth_mem (j := k) (by have := HN.out; omega))).2; omega)
        go_wp2_with fail
        go_ret
        rw [HE.out]
        exact ⟨rfl, below_drewN HBW'.out _⟩
      have M1 : Hid (verOk (nth p.vs k)) := ⟨m1, by omega⟩
      go_wp2_with fail
      clear m1 m2
      go_loopw [4] (fun i wr => ∃ m : Nat, m ≤ k ∧ i = .int .i64 m ∧ Hid (∀ j, j < m → nth p.vs j ≠ nth p.vs k) ∧ ∃ q, wr = W.drewN q) (fun i _ => k - (intOf i).toNat)
      case atStart => exact ⟨0, Nat.zero_le _, rfl, fun i hi => by omega, q, rfl⟩
      case round =>
        obtain ⟨m, hm, rfl, hq2, q2, rfl⟩ := hrel
        by_cases hlt2 : m < k
        · have g2 := hcx'.out m (by omega)
          have hm1 : (m : Int) < (n : Int) := by omega
          have hm0 : (0 : Int) ≤ (m : Int) := by omega
          have hmk : (m : Int) < (k : Int) := by omega
          by_cases hz : nth p.vs m = nth p.vs k
          · have hz' : (nth p.vs m == nth p.vs k) = true := by simp [hz]
            have HE : Hid (D = false) := by
              show _ = _
              rw [HD0.out]
              refine decide_eq_false fun x => ?_
              have := (nodup_nth.2 ⟨x.2.2.2.1, x.2.2.2.2⟩) k (by have := HN.out; omega)
              exact this.2 m (by omega) hz
            clear hz
            go_wp2_with fail
            go_quiet (fail)
            go_wp2_with fail
            go_ret
            rw [HE.out]
            exact ⟨rfl, below_drewN (below_drewN HBW'.out _) _⟩
          · have hz' : (nth p.vs m == nth p.vs k) = false := by simp [hz]
            have HZ := Lib.hid hz; clear hz
            go_wp2_with fail
            go_quiet (fail)
            go_wp2_with fail
            go_roundw
            case rel => exact ⟨m + 1, by omega, by go_num, fun j hj => by
              rcases Nat.lt_or_ge j m with h | h
              · exact hq2.out j h
              · obtain rfl : j = m := by omega
                exact HZ.out, _, rfl⟩
            case measure => simp [intOf]; omega
        · obtain rfl : m = k := by omega
          go_wp2_with fail
          go_roundw
          case rel => exact ⟨m + 1, by omega, by go_num, fun i hi => by
            rcases Nat.lt_or_ge i m with h | h
            · exact hq.out i h
            · obtain rfl : i = m := by omega
              exact ⟨M1.out, fun j hj => hq2.out j hj⟩, _, rfl⟩
          case measure => simp [intOf]; omega
    · obtain rfl : k = n := by omega
      have HM : Hid ((∀ v ∈ p.vs, verOk v) ∧ p.vs.Nodup) := nodup_nth.1 fun i hi => hq.out i (by have := HN.out; omega)
      have hmm : Hid ((nameOk p.hg p.goal ∧ nameOk p.ho p.own ∧ nameOk p.hr p.retry) ↔ rightP p) := by
        show _ ↔ _
        exact ⟨fun x => ⟨⟨D1.out, D2.out, D3.out⟩, x, D5.out, HM.out.1, HM.out.2⟩, fun x => x.2.1⟩
      have n2 : W.cell? ⟨w.heap.size, 2, none⟩ = some (.bool p.hg) := PD'.out.cell 2
      have n5 : W.cell? ⟨w.heap.size, 5, none⟩ = some (.slice s.gA p.goal.length s.gc) := PD'.out.cell 5
      have n3 : W.cell? ⟨w.heap.size, 3, none⟩ = some (.bool p.ho) := PD'.out.cell 3
      have n6 : W.cell? ⟨w.heap.size, 6, none⟩ = some (.slice s.oA p.own.length s.oc) := PD'.out.cell 6
      have n4 : W.cell? ⟨w.heap.size, 4, none⟩ = some (.bool p.hr) := PD'.out.cell 4
      have n7 : W.cell? ⟨w.heap.size, 7, none⟩ = some (.slice s.rA p.retry.length s.rc) := PD'.out.cell 7
      by_cases f1 : nameOk p.hg p.goal
      rotate_left
      · have HE : Hid (D = false) := by show _ = _; rw [HD0.out]; exact decide_eq_false fun x => f1 (hmm.out.2 x).1
        have q4 : namedN p.hg p.goal.length = false := by rw [namedN_eq]; exact decide_eq_false f1
        have Q4 := Lib.hid q4
        clear f1 q4
        go_wp2_with (go_at_call 39; refine (rname_any _ _ _ _ _).mono ?_; rintro e w' ⟨rfl, hw⟩; subst hw; rw [Q4.out])
        go_ret
        rw [HE.out]
        exact ⟨rfl, below_drewN HBW'.out _⟩
      have q4 : namedN p.hg p.goal.length = true := by rw [namedN_eq]; exact decide_eq_true f1
      have Q4 := Lib.hid q4
      have F1 := Lib.hid f1
      clear f1 q4
      by_cases f2 : nameOk p.ho p.own
      rotate_left
      · have HE : Hid (D = false) := by show _ = _; rw [HD0.out]; exact decide_eq_false fun x => f2 (hmm.out.2 x).2.1
        have q5 : namedN p.ho p.own.length = false := by rw [namedN_eq]; exact decide_eq_false f2
        have Q5 := Lib.hid q5
        clear f2 q5
        go_wp2_with (go_at_call 39; refine (rname_any _ _ _ _ _).mono ?_; rintro e w' ⟨rfl, hw⟩; subst hw; first | rw [Q4.out] | rw [Q5.out])
        go_ret
        rw [HE.out]
        exact ⟨rfl, below_drewN HBW'.out _⟩
      have q5 : namedN p.ho p.own.length = true := by rw [namedN_eq]; exact decide_eq_true f2
      have Q5 := Lib.hid q5
      have F2 := Lib.hid f2
      clear f2 q5
      obtain ⟨r, hr⟩ : ∃ r, r = namedN p.hr p.retry.length := ⟨_, rfl⟩
      have HE : Hid (D = r) := by
        show _ = _
        rw [HD0.out, hr, namedN_eq]
        by_cases f3 : nameOk p.hr p.retry
        · rw [decide_eq_true (hmm.out.1 ⟨F1.out, F2.out, f3⟩), decide_eq_true f3]
        · rw [decide_eq_false fun x => f3 (hmm.out.2 x).2.2, decide_eq_false f3]
      have HR := Lib.hid hr
      clear hr
      go_wp2_with (go_at_call 39; refine (rname_any _ _ _ _ _).mono ?_; rintro e w' ⟨rfl, hw⟩; subst hw; first | rw [Q4.out] | rw [Q5.out] | rw [← HR.out])
      go_ret
      rw [HE.out]
      exact ⟨rfl, below_drewN HBW'.out _⟩
end Go.Proofs.YtbfgoojpbhlboaaDoor
