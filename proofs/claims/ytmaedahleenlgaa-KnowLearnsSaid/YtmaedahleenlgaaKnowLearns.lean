/- KnowLearns: the walk. No condition. -/
import Derived.Test.YtmaedahleenlgaaKnowFinds
import Derived.Test.YtmaedahleenlgaaZero03
import Derived.Test.YtmaedahleenlgaaPureSched
import Derived.Deep.RegionHeldLaw
set_option linter.unusedVariables false
set_option linter.unusedSimpArgs false
namespace Go.Proofs.Ytmaedahleenlgaa
open Go Go.RowKit Go.WideMaps

theorem mnd_tr : ∀ o, mndO o = true → trO o = false := fun o h => by
  unfold trO
  rw [tabO_mnd o h, Bool.false_or]
  cases e : refO o with
  | false => rfl
  | true => rw [ref_mnd o e] at h; cases h
theorem stepT3_ext (T : List Nd) (kind : Int) (text : ByteArray) (parts : List Int) : ∃ R, (stepT3 T kind text parts).1 = T ++ R := by
  unfold stepT3
  split
  · obtain ⟨R, e, -⟩ := textT_ext T text; exact ⟨R, e⟩
  split
  · obtain ⟨R, e, -⟩ := secretT_ext T; exact ⟨R, e⟩
  · obtain ⟨R, e, -⟩ := makeT_ext T kind (parts.map (nearT T.length)); exact ⟨R, e⟩
/-- A row of bools beside a mind. -/
theorem KStep.row {B Bc : Nat} {w w' : World} {mb : Nat} {tp : Option Addr} {v1 v2 u1 u2 vc : Value} {T : List Nd} {S : Int → Prop} {C : List Bool} (h : KStep B w mb tp v1 v2 u1 u2 T S w') (ho : OwnB w Bc vc C) (hd : ∀ g, vc.ownBlock = some g → ¬ mS mb v1 v2 g) :
    OwnB w' Bc vc C ∧ ∀ g, vc.ownBlock = some g → ¬ mS mb u1 u2 g := by
  refine ⟨ho.same fun g e => h.fr.block g (ho.lt g e).2 (hd g e), fun g e q => ?_⟩
  have hl := (ho.lt g e).2
  rcases q with q | q | q
  · exact hd g e (.inl q)
  · rcases h.o1 g q with r | r
    · exact hd g e (.inr (.inl r))
    · omega
  · rcases h.o2 g q with r | r
    · exact hd g e (.inr (.inr r))
    · omega
theorem inT_one3 {T : List Nd} {x y : Int} (h : inT T [x] y) : y = x := by simpa using h.1
/-- What the loop keeps: table, twin, mind, what was heard. -/
structure LnI (w : World) (tb rb mb : Nat) (vH : Value) (T : List Nd) (H : List Int) (W : World) : Prop where
  t : IsTab w.heap.size W tb T
  r : IsRef w.heap.size W rb T
  m : ∃ x1 x2, MindV w.heap.size W mb (some ⟨tb, 0, none⟩) x1 x2 T (fun q => q ∈ H)
  h : OwnZ W w.heap.size vH H
  rg : ∀ x ∈ H, 1 ≤ x ∧ x ≤ T.length
  bl : Below w.heap.size w W
set_option maxHeartbeats 6400000 in
set_option maxRecDepth 100000 in
theorem learns_any {B' : Nat} (A : Option Addr) (n c : Nat) (S : List Sp3) (A2 : Option Addr) (n2 c2 : Nat) (base : List Int) (w : World) (h : SpsAt3 w.heap.size w A n S) (hr : Rds B' w .i64 A2 n2 c2 base) :
    Calls Try.prog 3 #[.slice A n c, .slice A2 n2 c2] w (AwakePost w) := by
  have HS := Lib.hid h
  have HR := Lib.hid hr
  have hl := Lib.hid hr.len
  have hcap := hr.cap
  have hmax := hr.max
  clear h hr
  go_enter Try.func3, Try.ntmps3
  go_wp2_with fail
  refine (light_any A n c S A2 n2 c2 w w.heap.size (Nat.le_refl _) HS.out hcap hmax).mono ?_
  rintro e w1 ⟨rfl, b, rfl, hb⟩
  have HLb := Lib.hid hb
  clear hb
  cases b with
  | false =>
    go_wp2_with fail
    go_ret
    exact ⟨rfl, Below.refl _ _⟩
  | true =>
  have hL := HLb.out rfl
  have hn50 := hL.2
  have HL := Lib.hid hL.1
  have hn6 : n ≤ 50 := by have := hL.1.1; have := HS.out.1; omega
  clear hL HLb
  go_wp2_with fail
  refine (new_any w1).mono ?_
  rintro e w2 ⟨tb, rfl, ht1, hb1⟩
  have HT1 := Lib.hid ht1
  have HB1 := Lib.hid hb1
  have hs1 := hb1.size
  clear ht1 hb1
  go_wp2_with fail
  refine (knew_any w1.heap.size (some ⟨tb, 0, none⟩) w2 hs1).mono ?_
  rintro e w3 ⟨rfl, hm3, hb3⟩
  have HM3 := Lib.hid (MindV.new wfT_nil hm3)
  have HT3 := Lib.hid (HT1.out.below hb3)
  have HB3 := Lib.hid (HB1.out.trans (hb3.mono hs1))
  have hs3 := HB3.out.size
  obtain ⟨mb, hmb⟩ : ∃ mb, mb = w2.heap.size := ⟨_, rfl⟩
  rw [← hmb] at HM3 ⊢
  clear hm3 hb3 HT1 HB1 hs1 hmb
  obtain ⟨rb, hrb⟩ : ∃ rb, w3.heap.size = rb := ⟨_, rfl⟩
  have HR2 := Lib.hid (ref_nil3 (B := w1.heap.size) (w := w3) (by omega) hrb)
  obtain ⟨w4, hw4⟩ : ∃ w4, w4 = w3.alloc (.cells #[.slice none 0 0] 32) := ⟨_, rfl⟩
  have HI4 : Hid (LnI w1 tb rb mb (.slice none 0 0) [] [] w4) := by
    rw [← hw4] at HR2
    refine ⟨?_, HR2.out, ⟨.slice none 0 0, .slice none 0 0, ?_⟩, OwnZ.nil _ _, fun x hx => by simp at hx, ?_⟩
    · rw [hw4]; exact HT3.out.below (below_new _)
    · rw [hw4]; exact (HM3.out.iff (S' := fun q => q ∈ ([] : List Int)) (fun x => by simp)).below (below_new _)
    · rw [hw4]; exact HB3.out.alloc hs3 _
  clear HR2 HT3 HB3 HM3 hs3
  go_wp2_with fail
  rw [← hw4]
  clear hw4 hrb
  go_loopw [8, 9] (fun v i wr => ∃ (k : Nat) (T : List Nd) (H : List Int), k ≤ n ∧ H.length ≤ k ∧ i = .int .i64 k ∧ Hid (LnI w1 tb rb mb v T H wr)) (fun _ i _ => n - (intOf i).toNat)
  case atStart => exact ⟨0, [], [], Nat.zero_le _, Nat.le_refl _, rfl, HI4⟩
  case round =>
    obtain ⟨k, T, H, hk, hHk, rfl, HI⟩ := hrel
    by_cases hlt : k < n
    · obtain ⟨s, hs⟩ : ∃ s, S[k]? = some s := ⟨_, List.getElem?_eq_getElem (by have := HS.out.1; omega)⟩
      obtain ⟨b0, o0, rfl, hlb⟩ := HS.out.2.1 (by omega)
      obtain ⟨b, o, eA, hsp⟩ := HS.out.2.2 k s hs
      cases eA
      obtain ⟨x0, x1, ⟨AP, cP, x2, HP⟩, hin, hall⟩ := hsp.below HI.out.bl (by omega)
      have hP := Lib.hid HP
      have hAll := Lib.hid hall
      have hle := HL.out.2 s (List.mem_of_getElem? hs)
      have HLE := Lib.hid hle
      clear HP hs hsp hall hle hin
      go_wp2_with fail
      refine (do3_any s.kind s.text AP _ cP s.parts wr HI.out.t HI.out.r hP.out hAll.out (by have := HLE.out.2; omega) (by have := HLE.out.1; omega)).mono ?_
      rintro e w5 ⟨rfl, ht3, hr3, hf3⟩
      obtain ⟨R, hR⟩ := stepT3_ext T s.kind s.text s.parts
      rw [hR] at ht3 hr3
      have hHI : LnI w1 tb rb mb u8 (T ++ R) H w5 := by
        obtain ⟨y1, y2, hm⟩ := HI.out.m
        refine ⟨ht3, hr3, ⟨y1, y2, (hm.frm hf3 mnd_tr).grow R ht3.1⟩, HI.out.h.frm (hf3.mono trO_sp), fun x hx => ?_, HI.out.bl.trans (hf3.below HI.out.bl.size)⟩
        have := HI.out.rg x hx
        rw [List.length_append]; omega
      obtain ⟨T3, hT3⟩ : ∃ T3, T3 = T ++ R := ⟨_, rfl⟩
      rw [← hT3] at hHI
      have HI5 := Lib.hid hHI
      clear ht3 hr3 hf3 HI hR hHI hT3 x0 x1 x2 hP hAll HLE
      -- BEHIND DO
      obtain ⟨AH, cH, eH⟩ := HI5.out.h.own.slice
      subst eH
      have hcH := (HI5.out.h.own.rds (B' := 0)).cap
      by_cases hkb : k < n2
      · have hkb' : (k : Int) < (n2 : Int) := by omega
        have hrB := HR.out.below HI5.out.bl
        obtain ⟨bA, oA, rfl, hcx⟩ := RdI.at_ hrB.cell (by have := hl.out; omega)
        have a0 := hcx k (by have := hl.out; omega)
        obtain ⟨x, hx⟩ : ∃ x, x = nth base k := ⟨_, rfl⟩
        rw [← hx] at a0
        have hbl : bA < w5.heap.size := by have := World.block_lt_of_cell? _ _ a0; exact this
        obtain ⟨y1, y2, hm5⟩ := HI5.out.m
        have hbn : Below w5.heap.size w5 (w5.alloc (.cells #[.int .i64 x] 37)) := below_new _
        have hrx : Rds 0 (w5.alloc (.cells #[.int .i64 x] 37)) .i64 (some ⟨w5.heap.size, 0, none⟩) 1 1 [x] := (OwnI.fresh (w := w5) (B := 0) (k := .i64) (xs := [x]) (Nat.zero_le _) sp_term (by simp)).rds
        have HMb := Lib.hid (hm5.below hbn)
        have HTb : Hid (TabAt w1.heap.size (w5.alloc (.cells #[.int .i64 x] 37)) (some ⟨tb, 0, none⟩) T3) := Lib.hid (.inr ⟨tb, rfl, HI5.out.t.below hbn⟩)
        have HRb := Lib.hid (HI5.out.r.below hbn)
        have HHb := Lib.hid (HI5.out.h.below hbn)
        have HBb := Lib.hid (HI5.out.bl.alloc HI5.out.bl.size (.cells #[.int .i64 x] 37))
        have HRG5 := Lib.hid HI5.out.rg
        have HBS := Lib.hid hrB
        have HXX := Lib.hid hx
        have key := vlearn_any [x] (some ⟨w5.heap.size, 0, none⟩) 1 _ HMb.out HTb.out hrx (by simp)
        clear hrx hbn hm5 hcx hx hrB HI5
        go_wp2_with fail
        refine key.mono ?_
        clear key
        rintro e w6 ⟨rfl, u1, u2, hk6⟩
        have hf6 := hk6.frm HMb.out
        have HT6 := Lib.hid (HTb.out.mnd hf6).isT
        have HR6 := Lib.hid (HRb.out.frm hf6 (Nat.le_refl _) ref_mnd mndO_sp)
        have HH6 := Lib.hid (HHb.out.frm (hf6.mono mndO_sp))
        have HB6 := Lib.hid (HBb.out.trans (hk6.below HMb.out))
        have HM6 := Lib.hid hk6.m
        have hrB6 := HR.out.below HB6.out
        obtain ⟨b9, o9, e9, hcx⟩ := RdI.at_ hrB6.cell (by have := hl.out; omega)
        cases e9
        have a1 := hcx k (by have := hl.out; omega)
        rw [← HXX.out] at a1
        obtain ⟨rA, rc, r0⟩ := HR6.out.len3
        clear hf6 hk6 HMb HTb HRb HHb HBb hcx hrB6 a0
        have HI6 : Hid (x ∈ [x]) := by show x ∈ [x]; simp
        by_cases h1 : 1 ≤ x
        · by_cases h2 : x ≤ (T3.length : Int)
          · go_wp2_with fail
            go_quiet (fail)
            have hdq : Below w6.heap.size w6 (w6.drewN nq) := below_drewN (Below.refl _ _) _
            have HTd := Lib.hid (HT6.out.below hdq)
            have HRd := Lib.hid (HR6.out.below hdq)
            have HHd := Lib.hid (HH6.out.below hdq)
            have HBd := Lib.hid (HB6.out.trans (hdq.mono HB6.out.size))
            have HMd := Lib.hid (HM6.out.below hdq)
            have a2 : (w6.drewN nq).cell? ⟨bA, oA + k, none⟩ = some (.int .i64 x) := by simpa using a1
            clear hdq r0 a1
            generalize w6.drewN nq = wd at HTd HRd HHd HBd HMd a2 ⊢
            clear HT6 HR6 HH6 HB6 HM6
            have hbn : Below wd.heap.size wd (wd.alloc (.cells #[.int .i64 x] 3)) := below_new _
            have HHe := Lib.hid (HHd.out.below hbn)
            have HTe := Lib.hid (HTd.out.below hbn)
            have HRe := Lib.hid (HRd.out.below hbn)
            have HMe := Lib.hid (HMd.out.below hbn)
            have HBe := Lib.hid (HBd.out.trans (hbn.mono HBd.out.size))
            have hsz := HBe.out.size
            clear hbn HTd HRd HHd HMd HBd
            go_wp2_with (at_builtin; refine wp_app_oneI rfl _ _ rfl x wd.heap.size 0 1 rfl rfl HHe.out (by simp [go_sem]) hsz (by omega) ?_)
            intro v7 w7 ho hz hv7 hb7
            obtain ⟨H7, hH7⟩ : ∃ H7, H7 = H ++ [x] := ⟨_, rfl⟩
            rw [← hH7] at ho
            have hpl := HHe.out.plain
            obtain ⟨A7, c7, e7⟩ := ho.own.slice
            subst e7
            have hc7 := (ho.own.rds (B' := 0)).cap
            have hl7 : H7.length = H.length + 1 := by rw [hH7]; simp
            have HJ : Hid (LnI w1 tb rb mb (.slice A7 H7.length c7) T3 H7 w7) := by
              refine ⟨HTe.out.zfr hz hpl, HRe.out.zfr hz hpl, ⟨u1, u2, (HMe.out.zfr hz hpl).iff fun q => ?_⟩, ho, fun z hzz => ?_, HBe.out.trans hb7⟩
              · rw [hH7, List.mem_append, List.mem_singleton]
                constructor
                · rintro (a | a)
                  · exact .inl a
                  · exact .inr (inT_one3 a)
                · rintro (a | rfl)
                  · exact .inl a
                  · exact .inr ⟨List.mem_singleton.2 rfl, h1, h2⟩
              · rw [hH7, List.mem_append, List.mem_singleton] at hzz
                rcases hzz with a | rfl
                · exact HRG5.out z a
                · exact ⟨h1, h2⟩
            have hlk : H7.length ≤ 50 := by omega
            have hlk2 : H7.length ≤ k + 1 := by omega
            clear ho hz hv7 hb7 hpl hH7 HTe HRe HMe HHe HBe hl7 a2 HRG5 HBS HXX HI6
            obtain ⟨AH, rfl⟩ : ∃ AH, AH = A7 := ⟨_, rfl⟩
            obtain ⟨cH, rfl⟩ : ∃ cH, cH = c7 := ⟨_, rfl⟩
            by_cases q6 : k % 7 = 6
            · have q6' : ((k : Int) % 7 != 6) = false := by simp; omega
              clear q6
              have key := find3_any H7 AH H7.length cH w7 HJ.out.r HJ.out.bl.size (HJ.out.h.own.rds (B' := 0)) (by omega)
              go_wp2_with fail
              refine key.mono ?_
              clear key
              rintro e w7 ⟨v1, v2, F, C, rfl, hd, hc0, hoF, hoC, hb7⟩
              have hS : inT T3 H7 = fun q => q ∈ H7 := funext fun x => propext ⟨fun q => q.1, fun q => ⟨q, HJ.out.rg x q⟩⟩
              rw [hS] at hd
              obtain ⟨y1, y2, hmW⟩ := HJ.out.m
              have HM7 := Lib.hid (hmW.below hb7)
              have hms := hmW.sub
              have hdF : ∀ g, v1.ownBlock = some g → ¬ mS mb y1 y2 g := fun g e q => by have := (hoF.lt g e).1; have := (hms g q).2; omega
              have hdC : ∀ g, v2.ownBlock = some g → ¬ mS mb y1 y2 g := fun g e q => by have := (hoC.lt g e).1; have := (hms g q).2; omega
              have HT7 : Hid (TabAt w1.heap.size w7 (some ⟨tb, 0, none⟩) T3) := Lib.hid (.inr ⟨tb, rfl, HJ.out.t.below hb7⟩)
              have HR7 := Lib.hid (HJ.out.r.below hb7)
              have HH7 := Lib.hid (HJ.out.h.below hb7)
              have HB7 := Lib.hid (HJ.out.bl.trans (hb7.mono HJ.out.bl.size))
              have HRG := Lib.hid HJ.out.rg
              have HW := Lib.hid HJ.out.t.1
              have hT := HJ.out.t.1.len
              have HF7 := Lib.hid hoF
              have HC7 := Lib.hid hoC
              have HDF := Lib.hid hdF
              have HDC := Lib.hid hdC
              have HD := Lib.hid hd
              have HC0 := Lib.hid hc0
              obtain ⟨X, hX⟩ : ∃ X, X = knL T3 (fun q => q ∈ H7) := ⟨_, rfl⟩
              have key := vknows_any w7 HM7.out HT7.out
              rw [← hX] at key
              have HX : Hid (X = folK F T3.length) := by show _ = _; rw [hX, folK_knL HD.out]
              clear hd hc0 hoF hoC hb7 hS hmW hms hdF hdC hX HJ
              go_wp2_with fail
              refine key.mono ?_
              clear key
              rintro e w8 ⟨A8, c8, rfl, ho8, z1, z2, hk8⟩
              have hf8 := hk8.frm HM7.out
              have rF := hk8.row HF7.out HDF.out
              have rC := hk8.row HC7.out HDC.out
              have HM8 := Lib.hid hk8.m
              have HT8 := Lib.hid (HT7.out.mnd hf8)
              have HR8 := Lib.hid (HR7.out.frm hf8 (Nat.le_refl _) ref_mnd mndO_sp)
              have HH8 := Lib.hid (HH7.out.frm (hf8.mono mndO_sp))
              have HB8 := Lib.hid (HB7.out.trans (hk8.below HM7.out))
              have HC8 := Lib.hid rC.1
              have HDC8 := Lib.hid rC.2
              have key := told3_any X A8 c8 F v1 T3.length w8 (ho8.rds (B' := 0)) rF.1 HD.out.len.F (by omega) HX.out
              clear hf8 rF rC hk8 ho8 HM7 HT7 HR7 HH7 HB7 HF7 HC7 HDF HDC HX
              go_wp2_with fail
              refine key.mono ?_
              clear key
              rintro e w9 ⟨rfl, rfl⟩
              obtain ⟨AC, cC, eC⟩ := HC8.out.slice
              have lC : C.length = T3.length + 1 := HD.out.len.C
              rw [lC] at eC
              subst eC
              have LC := Lib.hid lC
              have hcC : T3.length + 1 ≤ cC := by
                obtain ⟨g, cap, e, q, -⟩ := HC8.out.at_ (p := 0) (by omega) (by omega)
                simp only [Value.slice.injEq] at e
                omega
              clear lC
              go_wp2_with fail
              go_loopw [12] (fun v wr => ∃ (j : Nat) (x1 x2 : Value), j ≤ T3.length + 1 ∧ v = .int .i64 j ∧ Hid (TabAt w1.heap.size wr (some ⟨tb, 0, none⟩) T3) ∧ Hid (IsRef w1.heap.size wr rb T3) ∧ Hid (MindV w1.heap.size wr mb (some ⟨tb, 0, none⟩) x1 x2 T3 (fun q => q ∈ H7)) ∧ Hid (OwnZ wr w1.heap.size (.slice AH H7.length cH) H7) ∧ Hid (OwnB wr 0 (.slice AC (T3.length + 1) cC) C) ∧ Hid (∀ g, (Value.slice AC (T3.length + 1) cC).ownBlock = some g → ¬ mS mb x1 x2 g) ∧ Hid (Below w1.heap.size w1 wr)) (fun v _ => T3.length + 1 - (intOf v).toNat)
              case atStart => exact ⟨0, z1, z2, Nat.zero_le _, rfl, HT8, HR8, HM8, HH8, HC8.out.mono (Nat.zero_le _), HDC8, HB8⟩
              case round =>
                obtain ⟨j, x1, x2, hj, rfl, HTr, HRr, HMr, HHr, HCr, HDr, HBr⟩ := hrel
                obtain ⟨rA, rc, r0⟩ := HRr.out.len3
                by_cases hjl : j ≤ T3.length
                · have hle : (j : Int) ≤ (T3.length : Int) := by omega
                  obtain ⟨g, cap, e, hcc, q⟩ := HCr.out.at_ (p := (j : Int)) (by omega) (by have := LC.out; omega)
                  rw [LC.out] at e
                  simp only [Value.slice.injEq] at e
                  obtain ⟨rfl, -, rfl⟩ := e
                  rw [Int.toNat_natCast] at q
                  obtain ⟨b, hb⟩ : ∃ b, b = bget C (j : Int) := ⟨_, rfl⟩
                  rw [← hb] at q
                  have e2 : knB T3 (fun q => q ∈ H7) false (j : Int) = b := by
                    rw [hb]
                    by_cases j1 : 1 ≤ j
                    · exact (knB_of (HD.out.can (j : Int) (by omega))).symm
                    · obtain rfl : j = 0 := by omega
                      rw [show ((0 : Nat) : Int) = 0 from rfl, HC0.out]
                      cases h9 : knB T3 (fun q => q ∈ H7) false 0 with
                      | false => rfl
                      | true => have := (Kn.there HW.out (knB_true.1 h9)).1; omega
                  have hne : (b != b) = false := by simp
                  have hd : Below wr.heap.size wr wr.drew := (Below.refl _ _).drew
                  have HMd := Lib.hid (HMr.out.below hd)
                  have HTd := Lib.hid (HTr.out.below hd)
                  have HCd := Lib.hid (HCr.out.below hd)
                  have HRd := Lib.hid (HRr.out.below hd)
                  have HHd := Lib.hid (HHr.out.below hd)
                  have HBd := Lib.hid (HBr.out.trans (hd.mono HBr.out.size))
                  have hgl : g < wr.heap.size := (HCr.out.lt g rfl).2
                  have key := vcan_any (j : Int) (by omega) (wr.drew) HMd.out HTd.out
                  rw [e2] at key
                  have KEY := Lib.hid key
                  have hj64 : (j : Int) < (T3.length : Int) + 1 := by omega
                  clear hd hb e2 key hcc HMr HTr HCr HRr HHr HBr
                  go_wp2_with fail
                  clear r0
                  go_region_held_law (fun w' => w'.cell? ⟨g, j, none⟩ = some (.bool b)) (first | exact z1 | go_keep) ((first
                    | (go_at_call 17
                       refine KEY.out.mono ?_
                       rintro e w6 ⟨rfl, y1', y2', hk6⟩
                       have z1 : w6.cell? ⟨g, j, none⟩ = some (.bool b) := (World.cell?_of_block (hk6.fr.block _ hgl (HDr.out g rfl))).trans q
                       have HK6 := Lib.hid hk6
                       clear hk6)))
                  all_goals
                    have hf6 := HK6.out.frm HMd.out
                    have rC := HK6.out.row HCd.out HDr.out
                    have HT6 := Lib.hid (HTd.out.mnd hf6)
                    have HR6 := Lib.hid (HRd.out.frm hf6 (Nat.le_refl _) ref_mnd mndO_sp)
                    have HH6 := Lib.hid (HHd.out.frm (hf6.mono mndO_sp))
                    have HB6 := Lib.hid (HBd.out.trans (HK6.out.below HMd.out))
                    have HM6 := Lib.hid HK6.out.m
                    have HC6 := Lib.hid rC.1
                    have HD6 := Lib.hid rC.2
                    clear hf6 rC HK6 HTd HBd HMd HRd HHd HCd HDr KEY z1 q
                    go_wp2_with fail
                    go_roundw
                    case rel => exact ⟨j + 1, _, _, by omega, by go_num, HT6, HR6, HM6, HH6, HC6, HD6, HB6⟩
                    case measure => simp [intOf]; omega
                · have hnl : ¬ ((j : Int) ≤ (T3.length : Int)) := by omega
                  have HIE : Hid (LnI w1 tb rb mb (.slice AH H7.length cH) T3 H7 wr) := ⟨HTr.out.isT, HRr.out, ⟨x1, x2, HMr.out⟩, HHr.out, HRG.out, HBr.out⟩
                  go_wp2_with fail
                  go_roundw
                  case rel => exact ⟨k + 1, T3, H7, by omega, by omega, by go_num, HIE⟩
                  case measure => simp [intOf]; omega
            have q6' : ((k : Int) % 7 != 6) = true := by simp; omega
            by_cases q7 : k + 1 < n
            · have q7' : (k : Int) + 1 < (n : Int) := by omega
              clear q6
              go_wp2_with fail
              go_roundw
              case rel => exact ⟨k + 1, T3, H7, by omega, by omega, by go_num, HJ⟩
              case measure => simp [intOf]; omega
            have q7' : ¬ (k : Int) + 1 < (n : Int) := by omega
            clear q6
            have key := find3_any H7 AH H7.length cH w7 HJ.out.r HJ.out.bl.size (HJ.out.h.own.rds (B' := 0)) (by omega)
            go_wp2_with fail
            refine key.mono ?_
            clear key
            rintro e w7 ⟨v1, v2, F, C, rfl, hd, hc0, hoF, hoC, hb7⟩
            have hS : inT T3 H7 = fun q => q ∈ H7 := funext fun x => propext ⟨fun q => q.1, fun q => ⟨q, HJ.out.rg x q⟩⟩
            rw [hS] at hd
            obtain ⟨y1, y2, hmW⟩ := HJ.out.m
            have HM7 := Lib.hid (hmW.below hb7)
            have hms := hmW.sub
            have hdF : ∀ g, v1.ownBlock = some g → ¬ mS mb y1 y2 g := fun g e q => by have := (hoF.lt g e).1; have := (hms g q).2; omega
            have hdC : ∀ g, v2.ownBlock = some g → ¬ mS mb y1 y2 g := fun g e q => by have := (hoC.lt g e).1; have := (hms g q).2; omega
            have HT7 : Hid (TabAt w1.heap.size w7 (some ⟨tb, 0, none⟩) T3) := Lib.hid (.inr ⟨tb, rfl, HJ.out.t.below hb7⟩)
            have HR7 := Lib.hid (HJ.out.r.below hb7)
            have HH7 := Lib.hid (HJ.out.h.below hb7)
            have HB7 := Lib.hid (HJ.out.bl.trans (hb7.mono HJ.out.bl.size))
            have HRG := Lib.hid HJ.out.rg
            have HW := Lib.hid HJ.out.t.1
            have hT := HJ.out.t.1.len
            have HF7 := Lib.hid hoF
            have HC7 := Lib.hid hoC
            have HDF := Lib.hid hdF
            have HDC := Lib.hid hdC
            have HD := Lib.hid hd
            have HC0 := Lib.hid hc0
            obtain ⟨X, hX⟩ : ∃ X, X = knL T3 (fun q => q ∈ H7) := ⟨_, rfl⟩
            have key := vknows_any w7 HM7.out HT7.out
            rw [← hX] at key
            have HX : Hid (X = folK F T3.length) := by show _ = _; rw [hX, folK_knL HD.out]
            clear hd hc0 hoF hoC hb7 hS hmW hms hdF hdC hX HJ
            go_wp2_with fail
            refine key.mono ?_
            clear key
            rintro e w8 ⟨A8, c8, rfl, ho8, z1, z2, hk8⟩
            have hf8 := hk8.frm HM7.out
            have rF := hk8.row HF7.out HDF.out
            have rC := hk8.row HC7.out HDC.out
            have HM8 := Lib.hid hk8.m
            have HT8 := Lib.hid (HT7.out.mnd hf8)
            have HR8 := Lib.hid (HR7.out.frm hf8 (Nat.le_refl _) ref_mnd mndO_sp)
            have HH8 := Lib.hid (HH7.out.frm (hf8.mono mndO_sp))
            have HB8 := Lib.hid (HB7.out.trans (hk8.below HM7.out))
            have HC8 := Lib.hid rC.1
            have HDC8 := Lib.hid rC.2
            have key := told3_any X A8 c8 F v1 T3.length w8 (ho8.rds (B' := 0)) rF.1 HD.out.len.F (by omega) HX.out
            clear hf8 rF rC hk8 ho8 HM7 HT7 HR7 HH7 HB7 HF7 HC7 HDF HDC HX
            go_wp2_with fail
            refine key.mono ?_
            clear key
            rintro e w9 ⟨rfl, rfl⟩
            obtain ⟨AC, cC, eC⟩ := HC8.out.slice
            have lC : C.length = T3.length + 1 := HD.out.len.C
            rw [lC] at eC
            subst eC
            have LC := Lib.hid lC
            have hcC : T3.length + 1 ≤ cC := by
              obtain ⟨g, cap, e, q, -⟩ := HC8.out.at_ (p := 0) (by omega) (by omega)
              simp only [Value.slice.injEq] at e
              omega
            clear lC
            go_wp2_with fail
            go_loopw [12] (fun v wr => ∃ (j : Nat) (x1 x2 : Value), j ≤ T3.length + 1 ∧ v = .int .i64 j ∧ Hid (TabAt w1.heap.size wr (some ⟨tb, 0, none⟩) T3) ∧ Hid (IsRef w1.heap.size wr rb T3) ∧ Hid (MindV w1.heap.size wr mb (some ⟨tb, 0, none⟩) x1 x2 T3 (fun q => q ∈ H7)) ∧ Hid (OwnZ wr w1.heap.size (.slice AH H7.length cH) H7) ∧ Hid (OwnB wr 0 (.slice AC (T3.length + 1) cC) C) ∧ Hid (∀ g, (Value.slice AC (T3.length + 1) cC).ownBlock = some g → ¬ mS mb x1 x2 g) ∧ Hid (Below w1.heap.size w1 wr)) (fun v _ => T3.length + 1 - (intOf v).toNat)
            case atStart => exact ⟨0, z1, z2, Nat.zero_le _, rfl, HT8, HR8, HM8, HH8, HC8.out.mono (Nat.zero_le _), HDC8, HB8⟩
            case round =>
              obtain ⟨j, x1, x2, hj, rfl, HTr, HRr, HMr, HHr, HCr, HDr, HBr⟩ := hrel
              obtain ⟨rA, rc, r0⟩ := HRr.out.len3
              by_cases hjl : j ≤ T3.length
              · have hle : (j : Int) ≤ (T3.length : Int) := by omega
                obtain ⟨g, cap, e, hcc, q⟩ := HCr.out.at_ (p := (j : Int)) (by omega) (by have := LC.out; omega)
                rw [LC.out] at e
                simp only [Value.slice.injEq] at e
                obtain ⟨rfl, -, rfl⟩ := e
                rw [Int.toNat_natCast] at q
                obtain ⟨b, hb⟩ : ∃ b, b = bget C (j : Int) := ⟨_, rfl⟩
                rw [← hb] at q
                have e2 : knB T3 (fun q => q ∈ H7) false (j : Int) = b := by
                  rw [hb]
                  by_cases j1 : 1 ≤ j
                  · exact (knB_of (HD.out.can (j : Int) (by omega))).symm
                  · obtain rfl : j = 0 := by omega
                    rw [show ((0 : Nat) : Int) = 0 from rfl, HC0.out]
                    cases h9 : knB T3 (fun q => q ∈ H7) false 0 with
                    | false => rfl
                    | true => have := (Kn.there HW.out (knB_true.1 h9)).1; omega
                have hne : (b != b) = false := by simp
                have hd : Below wr.heap.size wr wr.drew := (Below.refl _ _).drew
                have HMd := Lib.hid (HMr.out.below hd)
                have HTd := Lib.hid (HTr.out.below hd)
                have HCd := Lib.hid (HCr.out.below hd)
                have HRd := Lib.hid (HRr.out.below hd)
                have HHd := Lib.hid (HHr.out.below hd)
                have HBd := Lib.hid (HBr.out.trans (hd.mono HBr.out.size))
                have hgl : g < wr.heap.size := (HCr.out.lt g rfl).2
                have key := vcan_any (j : Int) (by omega) (wr.drew) HMd.out HTd.out
                rw [e2] at key
                have KEY := Lib.hid key
                have hj64 : (j : Int) < (T3.length : Int) + 1 := by omega
                clear hd hb e2 key hcc HMr HTr HCr HRr HHr HBr
                go_wp2_with fail
                clear r0
                go_region_held_law (fun w' => w'.cell? ⟨g, j, none⟩ = some (.bool b)) (first | exact z1 | go_keep) ((first
                  | (go_at_call 17
                     refine KEY.out.mono ?_
                     rintro e w6 ⟨rfl, y1', y2', hk6⟩
                     have z1 : w6.cell? ⟨g, j, none⟩ = some (.bool b) := (World.cell?_of_block (hk6.fr.block _ hgl (HDr.out g rfl))).trans q
                     have HK6 := Lib.hid hk6
                     clear hk6)))
                all_goals
                  have hf6 := HK6.out.frm HMd.out
                  have rC := HK6.out.row HCd.out HDr.out
                  have HT6 := Lib.hid (HTd.out.mnd hf6)
                  have HR6 := Lib.hid (HRd.out.frm hf6 (Nat.le_refl _) ref_mnd mndO_sp)
                  have HH6 := Lib.hid (HHd.out.frm (hf6.mono mndO_sp))
                  have HB6 := Lib.hid (HBd.out.trans (HK6.out.below HMd.out))
                  have HM6 := Lib.hid HK6.out.m
                  have HC6 := Lib.hid rC.1
                  have HD6 := Lib.hid rC.2
                  clear hf6 rC HK6 HTd HBd HMd HRd HHd HCd HDr KEY z1 q
                  go_wp2_with fail
                  go_roundw
                  case rel => exact ⟨j + 1, _, _, by omega, by go_num, HT6, HR6, HM6, HH6, HC6, HD6, HB6⟩
                  case measure => simp [intOf]; omega
              · have hnl : ¬ ((j : Int) ≤ (T3.length : Int)) := by omega
                have HIE : Hid (LnI w1 tb rb mb (.slice AH H7.length cH) T3 H7 wr) := ⟨HTr.out.isT, HRr.out, ⟨x1, x2, HMr.out⟩, HHr.out, HRG.out, HBr.out⟩
                go_wp2_with fail
                go_roundw
                case rel => exact ⟨k + 1, T3, H7, by omega, by omega, by go_num, HIE⟩
                case measure => simp [intOf]; omega
          · have HJ0 : Hid (∀ q, (q ∈ H ∨ inT T3 [x] q) ↔ q ∈ H) := fun q => ⟨fun a => a.elim id fun b => absurd (inT_one3 b ▸ b.2.2) h2, .inl⟩
            go_wp2_with fail
            go_quiet (fail)
            have hdq : Below w6.heap.size w6 (w6.drewN nq) := below_drewN (Below.refl _ _) _
            have HJ : Hid (LnI w1 tb rb mb (.slice AH H.length cH) T3 H (w6.drewN nq)) := ⟨HT6.out.below hdq, HR6.out.below hdq, ⟨u1, u2, (HM6.out.below hdq).iff HJ0.out⟩, HH6.out.below hdq, HRG5.out, HB6.out.trans (hdq.mono HB6.out.size)⟩
            clear hdq r0 a1 HJ0
            generalize w6.drewN nq = w7 at HJ ⊢
            clear HT6 HR6 HH6 HB6 HM6 HRG5 HBS HXX HI6
            by_cases q6 : k % 7 = 6
            · have q6' : ((k : Int) % 7 != 6) = false := by simp; omega
              clear q6
              have key := find3_any H AH H.length cH w7 HJ.out.r HJ.out.bl.size (HJ.out.h.own.rds (B' := 0)) (by omega)
              go_wp2_with fail
              refine key.mono ?_
              clear key
              rintro e w7 ⟨v1, v2, F, C, rfl, hd, hc0, hoF, hoC, hb7⟩
              have hS : inT T3 H = fun q => q ∈ H := funext fun x => propext ⟨fun q => q.1, fun q => ⟨q, HJ.out.rg x q⟩⟩
              rw [hS] at hd
              obtain ⟨y1, y2, hmW⟩ := HJ.out.m
              have HM7 := Lib.hid (hmW.below hb7)
              have hms := hmW.sub
              have hdF : ∀ g, v1.ownBlock = some g → ¬ mS mb y1 y2 g := fun g e q => by have := (hoF.lt g e).1; have := (hms g q).2; omega
              have hdC : ∀ g, v2.ownBlock = some g → ¬ mS mb y1 y2 g := fun g e q => by have := (hoC.lt g e).1; have := (hms g q).2; omega
              have HT7 : Hid (TabAt w1.heap.size w7 (some ⟨tb, 0, none⟩) T3) := Lib.hid (.inr ⟨tb, rfl, HJ.out.t.below hb7⟩)
              have HR7 := Lib.hid (HJ.out.r.below hb7)
              have HH7 := Lib.hid (HJ.out.h.below hb7)
              have HB7 := Lib.hid (HJ.out.bl.trans (hb7.mono HJ.out.bl.size))
              have HRG := Lib.hid HJ.out.rg
              have HW := Lib.hid HJ.out.t.1
              have hT := HJ.out.t.1.len
              have HF7 := Lib.hid hoF
              have HC7 := Lib.hid hoC
              have HDF := Lib.hid hdF
              have HDC := Lib.hid hdC
              have HD := Lib.hid hd
              have HC0 := Lib.hid hc0
              obtain ⟨X, hX⟩ : ∃ X, X = knL T3 (fun q => q ∈ H) := ⟨_, rfl⟩
              have key := vknows_any w7 HM7.out HT7.out
              rw [← hX] at key
              have HX : Hid (X = folK F T3.length) := by show _ = _; rw [hX, folK_knL HD.out]
              clear hd hc0 hoF hoC hb7 hS hmW hms hdF hdC hX HJ
              go_wp2_with fail
              refine key.mono ?_
              clear key
              rintro e w8 ⟨A8, c8, rfl, ho8, z1, z2, hk8⟩
              have hf8 := hk8.frm HM7.out
              have rF := hk8.row HF7.out HDF.out
              have rC := hk8.row HC7.out HDC.out
              have HM8 := Lib.hid hk8.m
              have HT8 := Lib.hid (HT7.out.mnd hf8)
              have HR8 := Lib.hid (HR7.out.frm hf8 (Nat.le_refl _) ref_mnd mndO_sp)
              have HH8 := Lib.hid (HH7.out.frm (hf8.mono mndO_sp))
              have HB8 := Lib.hid (HB7.out.trans (hk8.below HM7.out))
              have HC8 := Lib.hid rC.1
              have HDC8 := Lib.hid rC.2
              have key := told3_any X A8 c8 F v1 T3.length w8 (ho8.rds (B' := 0)) rF.1 HD.out.len.F (by omega) HX.out
              clear hf8 rF rC hk8 ho8 HM7 HT7 HR7 HH7 HB7 HF7 HC7 HDF HDC HX
              go_wp2_with fail
              refine key.mono ?_
              clear key
              rintro e w9 ⟨rfl, rfl⟩
              obtain ⟨AC, cC, eC⟩ := HC8.out.slice
              have lC : C.length = T3.length + 1 := HD.out.len.C
              rw [lC] at eC
              subst eC
              have LC := Lib.hid lC
              have hcC : T3.length + 1 ≤ cC := by
                obtain ⟨g, cap, e, q, -⟩ := HC8.out.at_ (p := 0) (by omega) (by omega)
                simp only [Value.slice.injEq] at e
                omega
              clear lC
              go_wp2_with fail
              go_loopw [12] (fun v wr => ∃ (j : Nat) (x1 x2 : Value), j ≤ T3.length + 1 ∧ v = .int .i64 j ∧ Hid (TabAt w1.heap.size wr (some ⟨tb, 0, none⟩) T3) ∧ Hid (IsRef w1.heap.size wr rb T3) ∧ Hid (MindV w1.heap.size wr mb (some ⟨tb, 0, none⟩) x1 x2 T3 (fun q => q ∈ H)) ∧ Hid (OwnZ wr w1.heap.size (.slice AH H.length cH) H) ∧ Hid (OwnB wr 0 (.slice AC (T3.length + 1) cC) C) ∧ Hid (∀ g, (Value.slice AC (T3.length + 1) cC).ownBlock = some g → ¬ mS mb x1 x2 g) ∧ Hid (Below w1.heap.size w1 wr)) (fun v _ => T3.length + 1 - (intOf v).toNat)
              case atStart => exact ⟨0, z1, z2, Nat.zero_le _, rfl, HT8, HR8, HM8, HH8, HC8.out.mono (Nat.zero_le _), HDC8, HB8⟩
              case round =>
                obtain ⟨j, x1, x2, hj, rfl, HTr, HRr, HMr, HHr, HCr, HDr, HBr⟩ := hrel
                obtain ⟨rA, rc, r0⟩ := HRr.out.len3
                by_cases hjl : j ≤ T3.length
                · have hle : (j : Int) ≤ (T3.length : Int) := by omega
                  obtain ⟨g, cap, e, hcc, q⟩ := HCr.out.at_ (p := (j : Int)) (by omega) (by have := LC.out; omega)
                  rw [LC.out] at e
                  simp only [Value.slice.injEq] at e
                  obtain ⟨rfl, -, rfl⟩ := e
                  rw [Int.toNat_natCast] at q
                  obtain ⟨b, hb⟩ : ∃ b, b = bget C (j : Int) := ⟨_, rfl⟩
                  rw [← hb] at q
                  have e2 : knB T3 (fun q => q ∈ H) false (j : Int) = b := by
                    rw [hb]
                    by_cases j1 : 1 ≤ j
                    · exact (knB_of (HD.out.can (j : Int) (by omega))).symm
                    · obtain rfl : j = 0 := by omega
                      rw [show ((0 : Nat) : Int) = 0 from rfl, HC0.out]
                      cases h9 : knB T3 (fun q => q ∈ H) false 0 with
                      | false => rfl
                      | true => have := (Kn.there HW.out (knB_true.1 h9)).1; omega
                  have hne : (b != b) = false := by simp
                  have hd : Below wr.heap.size wr wr.drew := (Below.refl _ _).drew
                  have HMd := Lib.hid (HMr.out.below hd)
                  have HTd := Lib.hid (HTr.out.below hd)
                  have HCd := Lib.hid (HCr.out.below hd)
                  have HRd := Lib.hid (HRr.out.below hd)
                  have HHd := Lib.hid (HHr.out.below hd)
                  have HBd := Lib.hid (HBr.out.trans (hd.mono HBr.out.size))
                  have hgl : g < wr.heap.size := (HCr.out.lt g rfl).2
                  have key := vcan_any (j : Int) (by omega) (wr.drew) HMd.out HTd.out
                  rw [e2] at key
                  have KEY := Lib.hid key
                  have hj64 : (j : Int) < (T3.length : Int) + 1 := by omega
                  clear hd hb e2 key hcc HMr HTr HCr HRr HHr HBr
                  go_wp2_with fail
                  clear r0
                  go_region_held_law (fun w' => w'.cell? ⟨g, j, none⟩ = some (.bool b)) (first | exact z1 | go_keep) ((first
                    | (go_at_call 17
                       refine KEY.out.mono ?_
                       rintro e w6 ⟨rfl, y1', y2', hk6⟩
                       have z1 : w6.cell? ⟨g, j, none⟩ = some (.bool b) := (World.cell?_of_block (hk6.fr.block _ hgl (HDr.out g rfl))).trans q
                       have HK6 := Lib.hid hk6
                       clear hk6)))
                  all_goals
                    have hf6 := HK6.out.frm HMd.out
                    have rC := HK6.out.row HCd.out HDr.out
                    have HT6 := Lib.hid (HTd.out.mnd hf6)
                    have HR6 := Lib.hid (HRd.out.frm hf6 (Nat.le_refl _) ref_mnd mndO_sp)
                    have HH6 := Lib.hid (HHd.out.frm (hf6.mono mndO_sp))
                    have HB6 := Lib.hid (HBd.out.trans (HK6.out.below HMd.out))
                    have HM6 := Lib.hid HK6.out.m
                    have HC6 := Lib.hid rC.1
                    have HD6 := Lib.hid rC.2
                    clear hf6 rC HK6 HTd HBd HMd HRd HHd HCd HDr KEY z1 q
                    go_wp2_with fail
                    go_roundw
                    case rel => exact ⟨j + 1, _, _, by omega, by go_num, HT6, HR6, HM6, HH6, HC6, HD6, HB6⟩
                    case measure => simp [intOf]; omega
                · have hnl : ¬ ((j : Int) ≤ (T3.length : Int)) := by omega
                  have HIE : Hid (LnI w1 tb rb mb (.slice AH H.length cH) T3 H wr) := ⟨HTr.out.isT, HRr.out, ⟨x1, x2, HMr.out⟩, HHr.out, HRG.out, HBr.out⟩
                  go_wp2_with fail
                  go_roundw
                  case rel => exact ⟨k + 1, T3, H, by omega, by omega, by go_num, HIE⟩
                  case measure => simp [intOf]; omega
            have q6' : ((k : Int) % 7 != 6) = true := by simp; omega
            by_cases q7 : k + 1 < n
            · have q7' : (k : Int) + 1 < (n : Int) := by omega
              clear q6
              go_wp2_with fail
              go_roundw
              case rel => exact ⟨k + 1, T3, H, by omega, by omega, by go_num, HJ⟩
              case measure => simp [intOf]; omega
            have q7' : ¬ (k : Int) + 1 < (n : Int) := by omega
            clear q6
            have key := find3_any H AH H.length cH w7 HJ.out.r HJ.out.bl.size (HJ.out.h.own.rds (B' := 0)) (by omega)
            go_wp2_with fail
            refine key.mono ?_
            clear key
            rintro e w7 ⟨v1, v2, F, C, rfl, hd, hc0, hoF, hoC, hb7⟩
            have hS : inT T3 H = fun q => q ∈ H := funext fun x => propext ⟨fun q => q.1, fun q => ⟨q, HJ.out.rg x q⟩⟩
            rw [hS] at hd
            obtain ⟨y1, y2, hmW⟩ := HJ.out.m
            have HM7 := Lib.hid (hmW.below hb7)
            have hms := hmW.sub
            have hdF : ∀ g, v1.ownBlock = some g → ¬ mS mb y1 y2 g := fun g e q => by have := (hoF.lt g e).1; have := (hms g q).2; omega
            have hdC : ∀ g, v2.ownBlock = some g → ¬ mS mb y1 y2 g := fun g e q => by have := (hoC.lt g e).1; have := (hms g q).2; omega
            have HT7 : Hid (TabAt w1.heap.size w7 (some ⟨tb, 0, none⟩) T3) := Lib.hid (.inr ⟨tb, rfl, HJ.out.t.below hb7⟩)
            have HR7 := Lib.hid (HJ.out.r.below hb7)
            have HH7 := Lib.hid (HJ.out.h.below hb7)
            have HB7 := Lib.hid (HJ.out.bl.trans (hb7.mono HJ.out.bl.size))
            have HRG := Lib.hid HJ.out.rg
            have HW := Lib.hid HJ.out.t.1
            have hT := HJ.out.t.1.len
            have HF7 := Lib.hid hoF
            have HC7 := Lib.hid hoC
            have HDF := Lib.hid hdF
            have HDC := Lib.hid hdC
            have HD := Lib.hid hd
            have HC0 := Lib.hid hc0
            obtain ⟨X, hX⟩ : ∃ X, X = knL T3 (fun q => q ∈ H) := ⟨_, rfl⟩
            have key := vknows_any w7 HM7.out HT7.out
            rw [← hX] at key
            have HX : Hid (X = folK F T3.length) := by show _ = _; rw [hX, folK_knL HD.out]
            clear hd hc0 hoF hoC hb7 hS hmW hms hdF hdC hX HJ
            go_wp2_with fail
            refine key.mono ?_
            clear key
            rintro e w8 ⟨A8, c8, rfl, ho8, z1, z2, hk8⟩
            have hf8 := hk8.frm HM7.out
            have rF := hk8.row HF7.out HDF.out
            have rC := hk8.row HC7.out HDC.out
            have HM8 := Lib.hid hk8.m
            have HT8 := Lib.hid (HT7.out.mnd hf8)
            have HR8 := Lib.hid (HR7.out.frm hf8 (Nat.le_refl _) ref_mnd mndO_sp)
            have HH8 := Lib.hid (HH7.out.frm (hf8.mono mndO_sp))
            have HB8 := Lib.hid (HB7.out.trans (hk8.below HM7.out))
            have HC8 := Lib.hid rC.1
            have HDC8 := Lib.hid rC.2
            have key := told3_any X A8 c8 F v1 T3.length w8 (ho8.rds (B' := 0)) rF.1 HD.out.len.F (by omega) HX.out
            clear hf8 rF rC hk8 ho8 HM7 HT7 HR7 HH7 HB7 HF7 HC7 HDF HDC HX
            go_wp2_with fail
            refine key.mono ?_
            clear key
            rintro e w9 ⟨rfl, rfl⟩
            obtain ⟨AC, cC, eC⟩ := HC8.out.slice
            have lC : C.length = T3.length + 1 := HD.out.len.C
            rw [lC] at eC
            subst eC
            have LC := Lib.hid lC
            have hcC : T3.length + 1 ≤ cC := by
              obtain ⟨g, cap, e, q, -⟩ := HC8.out.at_ (p := 0) (by omega) (by omega)
              simp only [Value.slice.injEq] at e
              omega
            clear lC
            go_wp2_with fail
            go_loopw [12] (fun v wr => ∃ (j : Nat) (x1 x2 : Value), j ≤ T3.length + 1 ∧ v = .int .i64 j ∧ Hid (TabAt w1.heap.size wr (some ⟨tb, 0, none⟩) T3) ∧ Hid (IsRef w1.heap.size wr rb T3) ∧ Hid (MindV w1.heap.size wr mb (some ⟨tb, 0, none⟩) x1 x2 T3 (fun q => q ∈ H)) ∧ Hid (OwnZ wr w1.heap.size (.slice AH H.length cH) H) ∧ Hid (OwnB wr 0 (.slice AC (T3.length + 1) cC) C) ∧ Hid (∀ g, (Value.slice AC (T3.length + 1) cC).ownBlock = some g → ¬ mS mb x1 x2 g) ∧ Hid (Below w1.heap.size w1 wr)) (fun v _ => T3.length + 1 - (intOf v).toNat)
            case atStart => exact ⟨0, z1, z2, Nat.zero_le _, rfl, HT8, HR8, HM8, HH8, HC8.out.mono (Nat.zero_le _), HDC8, HB8⟩
            case round =>
              obtain ⟨j, x1, x2, hj, rfl, HTr, HRr, HMr, HHr, HCr, HDr, HBr⟩ := hrel
              obtain ⟨rA, rc, r0⟩ := HRr.out.len3
              by_cases hjl : j ≤ T3.length
              · have hle : (j : Int) ≤ (T3.length : Int) := by omega
                obtain ⟨g, cap, e, hcc, q⟩ := HCr.out.at_ (p := (j : Int)) (by omega) (by have := LC.out; omega)
                rw [LC.out] at e
                simp only [Value.slice.injEq] at e
                obtain ⟨rfl, -, rfl⟩ := e
                rw [Int.toNat_natCast] at q
                obtain ⟨b, hb⟩ : ∃ b, b = bget C (j : Int) := ⟨_, rfl⟩
                rw [← hb] at q
                have e2 : knB T3 (fun q => q ∈ H) false (j : Int) = b := by
                  rw [hb]
                  by_cases j1 : 1 ≤ j
                  · exact (knB_of (HD.out.can (j : Int) (by omega))).symm
                  · obtain rfl : j = 0 := by omega
                    rw [show ((0 : Nat) : Int) = 0 from rfl, HC0.out]
                    cases h9 : knB T3 (fun q => q ∈ H) false 0 with
                    | false => rfl
                    | true => have := (Kn.there HW.out (knB_true.1 h9)).1; omega
                have hne : (b != b) = false := by simp
                have hd : Below wr.heap.size wr wr.drew := (Below.refl _ _).drew
                have HMd := Lib.hid (HMr.out.below hd)
                have HTd := Lib.hid (HTr.out.below hd)
                have HCd := Lib.hid (HCr.out.below hd)
                have HRd := Lib.hid (HRr.out.below hd)
                have HHd := Lib.hid (HHr.out.below hd)
                have HBd := Lib.hid (HBr.out.trans (hd.mono HBr.out.size))
                have hgl : g < wr.heap.size := (HCr.out.lt g rfl).2
                have key := vcan_any (j : Int) (by omega) (wr.drew) HMd.out HTd.out
                rw [e2] at key
                have KEY := Lib.hid key
                have hj64 : (j : Int) < (T3.length : Int) + 1 := by omega
                clear hd hb e2 key hcc HMr HTr HCr HRr HHr HBr
                go_wp2_with fail
                clear r0
                go_region_held_law (fun w' => w'.cell? ⟨g, j, none⟩ = some (.bool b)) (first | exact z1 | go_keep) ((first
                  | (go_at_call 17
                     refine KEY.out.mono ?_
                     rintro e w6 ⟨rfl, y1', y2', hk6⟩
                     have z1 : w6.cell? ⟨g, j, none⟩ = some (.bool b) := (World.cell?_of_block (hk6.fr.block _ hgl (HDr.out g rfl))).trans q
                     have HK6 := Lib.hid hk6
                     clear hk6)))
                all_goals
                  have hf6 := HK6.out.frm HMd.out
                  have rC := HK6.out.row HCd.out HDr.out
                  have HT6 := Lib.hid (HTd.out.mnd hf6)
                  have HR6 := Lib.hid (HRd.out.frm hf6 (Nat.le_refl _) ref_mnd mndO_sp)
                  have HH6 := Lib.hid (HHd.out.frm (hf6.mono mndO_sp))
                  have HB6 := Lib.hid (HBd.out.trans (HK6.out.below HMd.out))
                  have HM6 := Lib.hid HK6.out.m
                  have HC6 := Lib.hid rC.1
                  have HD6 := Lib.hid rC.2
                  clear hf6 rC HK6 HTd HBd HMd HRd HHd HCd HDr KEY z1 q
                  go_wp2_with fail
                  go_roundw
                  case rel => exact ⟨j + 1, _, _, by omega, by go_num, HT6, HR6, HM6, HH6, HC6, HD6, HB6⟩
                  case measure => simp [intOf]; omega
              · have hnl : ¬ ((j : Int) ≤ (T3.length : Int)) := by omega
                have HIE : Hid (LnI w1 tb rb mb (.slice AH H.length cH) T3 H wr) := ⟨HTr.out.isT, HRr.out, ⟨x1, x2, HMr.out⟩, HHr.out, HRG.out, HBr.out⟩
                go_wp2_with fail
                go_roundw
                case rel => exact ⟨k + 1, T3, H, by omega, by omega, by go_num, HIE⟩
                case measure => simp [intOf]; omega
        · have HJ0 : Hid (∀ q, (q ∈ H ∨ inT T3 [x] q) ↔ q ∈ H) := fun q => ⟨fun a => a.elim id fun b => absurd (inT_one3 b ▸ b.2.1) h1, .inl⟩
          have h1' : decide (1 ≤ x) = false := decide_eq_false h1
          go_wp2_with fail
          go_quiet (fail)
          have hdq : Below w6.heap.size w6 (w6.drewN nq) := below_drewN (Below.refl _ _) _
          have HJ : Hid (LnI w1 tb rb mb (.slice AH H.length cH) T3 H (w6.drewN nq)) := ⟨HT6.out.below hdq, HR6.out.below hdq, ⟨u1, u2, (HM6.out.below hdq).iff HJ0.out⟩, HH6.out.below hdq, HRG5.out, HB6.out.trans (hdq.mono HB6.out.size)⟩
          clear hdq r0 a1 HJ0
          generalize w6.drewN nq = w7 at HJ ⊢
          clear HT6 HR6 HH6 HB6 HM6 HRG5 HBS HXX HI6
          by_cases q6 : k % 7 = 6
          · have q6' : ((k : Int) % 7 != 6) = false := by simp; omega
            clear q6
            have key := find3_any H AH H.length cH w7 HJ.out.r HJ.out.bl.size (HJ.out.h.own.rds (B' := 0)) (by omega)
            go_wp2_with fail
            refine key.mono ?_
            clear key
            rintro e w7 ⟨v1, v2, F, C, rfl, hd, hc0, hoF, hoC, hb7⟩
            have hS : inT T3 H = fun q => q ∈ H := funext fun x => propext ⟨fun q => q.1, fun q => ⟨q, HJ.out.rg x q⟩⟩
            rw [hS] at hd
            obtain ⟨y1, y2, hmW⟩ := HJ.out.m
            have HM7 := Lib.hid (hmW.below hb7)
            have hms := hmW.sub
            have hdF : ∀ g, v1.ownBlock = some g → ¬ mS mb y1 y2 g := fun g e q => by have := (hoF.lt g e).1; have := (hms g q).2; omega
            have hdC : ∀ g, v2.ownBlock = some g → ¬ mS mb y1 y2 g := fun g e q => by have := (hoC.lt g e).1; have := (hms g q).2; omega
            have HT7 : Hid (TabAt w1.heap.size w7 (some ⟨tb, 0, none⟩) T3) := Lib.hid (.inr ⟨tb, rfl, HJ.out.t.below hb7⟩)
            have HR7 := Lib.hid (HJ.out.r.below hb7)
            have HH7 := Lib.hid (HJ.out.h.below hb7)
            have HB7 := Lib.hid (HJ.out.bl.trans (hb7.mono HJ.out.bl.size))
            have HRG := Lib.hid HJ.out.rg
            have HW := Lib.hid HJ.out.t.1
            have hT := HJ.out.t.1.len
            have HF7 := Lib.hid hoF
            have HC7 := Lib.hid hoC
            have HDF := Lib.hid hdF
            have HDC := Lib.hid hdC
            have HD := Lib.hid hd
            have HC0 := Lib.hid hc0
            obtain ⟨X, hX⟩ : ∃ X, X = knL T3 (fun q => q ∈ H) := ⟨_, rfl⟩
            have key := vknows_any w7 HM7.out HT7.out
            rw [← hX] at key
            have HX : Hid (X = folK F T3.length) := by show _ = _; rw [hX, folK_knL HD.out]
            clear hd hc0 hoF hoC hb7 hS hmW hms hdF hdC hX HJ
            go_wp2_with fail
            refine key.mono ?_
            clear key
            rintro e w8 ⟨A8, c8, rfl, ho8, z1, z2, hk8⟩
            have hf8 := hk8.frm HM7.out
            have rF := hk8.row HF7.out HDF.out
            have rC := hk8.row HC7.out HDC.out
            have HM8 := Lib.hid hk8.m
            have HT8 := Lib.hid (HT7.out.mnd hf8)
            have HR8 := Lib.hid (HR7.out.frm hf8 (Nat.le_refl _) ref_mnd mndO_sp)
            have HH8 := Lib.hid (HH7.out.frm (hf8.mono mndO_sp))
            have HB8 := Lib.hid (HB7.out.trans (hk8.below HM7.out))
            have HC8 := Lib.hid rC.1
            have HDC8 := Lib.hid rC.2
            have key := told3_any X A8 c8 F v1 T3.length w8 (ho8.rds (B' := 0)) rF.1 HD.out.len.F (by omega) HX.out
            clear hf8 rF rC hk8 ho8 HM7 HT7 HR7 HH7 HB7 HF7 HC7 HDF HDC HX
            go_wp2_with fail
            refine key.mono ?_
            clear key
            rintro e w9 ⟨rfl, rfl⟩
            obtain ⟨AC, cC, eC⟩ := HC8.out.slice
            have lC : C.length = T3.length + 1 := HD.out.len.C
            rw [lC] at eC
            subst eC
            have LC := Lib.hid lC
            have hcC : T3.length + 1 ≤ cC := by
              obtain ⟨g, cap, e, q, -⟩ := HC8.out.at_ (p := 0) (by omega) (by omega)
              simp only [Value.slice.injEq] at e
              omega
            clear lC
            go_wp2_with fail
            go_loopw [12] (fun v wr => ∃ (j : Nat) (x1 x2 : Value), j ≤ T3.length + 1 ∧ v = .int .i64 j ∧ Hid (TabAt w1.heap.size wr (some ⟨tb, 0, none⟩) T3) ∧ Hid (IsRef w1.heap.size wr rb T3) ∧ Hid (MindV w1.heap.size wr mb (some ⟨tb, 0, none⟩) x1 x2 T3 (fun q => q ∈ H)) ∧ Hid (OwnZ wr w1.heap.size (.slice AH H.length cH) H) ∧ Hid (OwnB wr 0 (.slice AC (T3.length + 1) cC) C) ∧ Hid (∀ g, (Value.slice AC (T3.length + 1) cC).ownBlock = some g → ¬ mS mb x1 x2 g) ∧ Hid (Below w1.heap.size w1 wr)) (fun v _ => T3.length + 1 - (intOf v).toNat)
            case atStart => exact ⟨0, z1, z2, Nat.zero_le _, rfl, HT8, HR8, HM8, HH8, HC8.out.mono (Nat.zero_le _), HDC8, HB8⟩
            case round =>
              obtain ⟨j, x1, x2, hj, rfl, HTr, HRr, HMr, HHr, HCr, HDr, HBr⟩ := hrel
              obtain ⟨rA, rc, r0⟩ := HRr.out.len3
              by_cases hjl : j ≤ T3.length
              · have hle : (j : Int) ≤ (T3.length : Int) := by omega
                obtain ⟨g, cap, e, hcc, q⟩ := HCr.out.at_ (p := (j : Int)) (by omega) (by have := LC.out; omega)
                rw [LC.out] at e
                simp only [Value.slice.injEq] at e
                obtain ⟨rfl, -, rfl⟩ := e
                rw [Int.toNat_natCast] at q
                obtain ⟨b, hb⟩ : ∃ b, b = bget C (j : Int) := ⟨_, rfl⟩
                rw [← hb] at q
                have e2 : knB T3 (fun q => q ∈ H) false (j : Int) = b := by
                  rw [hb]
                  by_cases j1 : 1 ≤ j
                  · exact (knB_of (HD.out.can (j : Int) (by omega))).symm
                  · obtain rfl : j = 0 := by omega
                    rw [show ((0 : Nat) : Int) = 0 from rfl, HC0.out]
                    cases h9 : knB T3 (fun q => q ∈ H) false 0 with
                    | false => rfl
                    | true => have := (Kn.there HW.out (knB_true.1 h9)).1; omega
                have hne : (b != b) = false := by simp
                have hd : Below wr.heap.size wr wr.drew := (Below.refl _ _).drew
                have HMd := Lib.hid (HMr.out.below hd)
                have HTd := Lib.hid (HTr.out.below hd)
                have HCd := Lib.hid (HCr.out.below hd)
                have HRd := Lib.hid (HRr.out.below hd)
                have HHd := Lib.hid (HHr.out.below hd)
                have HBd := Lib.hid (HBr.out.trans (hd.mono HBr.out.size))
                have hgl : g < wr.heap.size := (HCr.out.lt g rfl).2
                have key := vcan_any (j : Int) (by omega) (wr.drew) HMd.out HTd.out
                rw [e2] at key
                have KEY := Lib.hid key
                have hj64 : (j : Int) < (T3.length : Int) + 1 := by omega
                clear hd hb e2 key hcc HMr HTr HCr HRr HHr HBr
                go_wp2_with fail
                clear r0
                go_region_held_law (fun w' => w'.cell? ⟨g, j, none⟩ = some (.bool b)) (first | exact z1 | go_keep) ((first
                  | (go_at_call 17
                     refine KEY.out.mono ?_
                     rintro e w6 ⟨rfl, y1', y2', hk6⟩
                     have z1 : w6.cell? ⟨g, j, none⟩ = some (.bool b) := (World.cell?_of_block (hk6.fr.block _ hgl (HDr.out g rfl))).trans q
                     have HK6 := Lib.hid hk6
                     clear hk6)))
                all_goals
                  have hf6 := HK6.out.frm HMd.out
                  have rC := HK6.out.row HCd.out HDr.out
                  have HT6 := Lib.hid (HTd.out.mnd hf6)
                  have HR6 := Lib.hid (HRd.out.frm hf6 (Nat.le_refl _) ref_mnd mndO_sp)
                  have HH6 := Lib.hid (HHd.out.frm (hf6.mono mndO_sp))
                  have HB6 := Lib.hid (HBd.out.trans (HK6.out.below HMd.out))
                  have HM6 := Lib.hid HK6.out.m
                  have HC6 := Lib.hid rC.1
                  have HD6 := Lib.hid rC.2
                  clear hf6 rC HK6 HTd HBd HMd HRd HHd HCd HDr KEY z1 q
                  go_wp2_with fail
                  go_roundw
                  case rel => exact ⟨j + 1, _, _, by omega, by go_num, HT6, HR6, HM6, HH6, HC6, HD6, HB6⟩
                  case measure => simp [intOf]; omega
              · have hnl : ¬ ((j : Int) ≤ (T3.length : Int)) := by omega
                have HIE : Hid (LnI w1 tb rb mb (.slice AH H.length cH) T3 H wr) := ⟨HTr.out.isT, HRr.out, ⟨x1, x2, HMr.out⟩, HHr.out, HRG.out, HBr.out⟩
                go_wp2_with fail
                go_roundw
                case rel => exact ⟨k + 1, T3, H, by omega, by omega, by go_num, HIE⟩
                case measure => simp [intOf]; omega
          have q6' : ((k : Int) % 7 != 6) = true := by simp; omega
          by_cases q7 : k + 1 < n
          · have q7' : (k : Int) + 1 < (n : Int) := by omega
            clear q6
            go_wp2_with fail
            go_roundw
            case rel => exact ⟨k + 1, T3, H, by omega, by omega, by go_num, HJ⟩
            case measure => simp [intOf]; omega
          have q7' : ¬ (k : Int) + 1 < (n : Int) := by omega
          clear q6
          have key := find3_any H AH H.length cH w7 HJ.out.r HJ.out.bl.size (HJ.out.h.own.rds (B' := 0)) (by omega)
          go_wp2_with fail
          refine key.mono ?_
          clear key
          rintro e w7 ⟨v1, v2, F, C, rfl, hd, hc0, hoF, hoC, hb7⟩
          have hS : inT T3 H = fun q => q ∈ H := funext fun x => propext ⟨fun q => q.1, fun q => ⟨q, HJ.out.rg x q⟩⟩
          rw [hS] at hd
          obtain ⟨y1, y2, hmW⟩ := HJ.out.m
          have HM7 := Lib.hid (hmW.below hb7)
          have hms := hmW.sub
          have hdF : ∀ g, v1.ownBlock = some g → ¬ mS mb y1 y2 g := fun g e q => by have := (hoF.lt g e).1; have := (hms g q).2; omega
          have hdC : ∀ g, v2.ownBlock = some g → ¬ mS mb y1 y2 g := fun g e q => by have := (hoC.lt g e).1; have := (hms g q).2; omega
          have HT7 : Hid (TabAt w1.heap.size w7 (some ⟨tb, 0, none⟩) T3) := Lib.hid (.inr ⟨tb, rfl, HJ.out.t.below hb7⟩)
          have HR7 := Lib.hid (HJ.out.r.below hb7)
          have HH7 := Lib.hid (HJ.out.h.below hb7)
          have HB7 := Lib.hid (HJ.out.bl.trans (hb7.mono HJ.out.bl.size))
          have HRG := Lib.hid HJ.out.rg
          have HW := Lib.hid HJ.out.t.1
          have hT := HJ.out.t.1.len
          have HF7 := Lib.hid hoF
          have HC7 := Lib.hid hoC
          have HDF := Lib.hid hdF
          have HDC := Lib.hid hdC
          have HD := Lib.hid hd
          have HC0 := Lib.hid hc0
          obtain ⟨X, hX⟩ : ∃ X, X = knL T3 (fun q => q ∈ H) := ⟨_, rfl⟩
          have key := vknows_any w7 HM7.out HT7.out
          rw [← hX] at key
          have HX : Hid (X = folK F T3.length) := by show _ = _; rw [hX, folK_knL HD.out]
          clear hd hc0 hoF hoC hb7 hS hmW hms hdF hdC hX HJ
          go_wp2_with fail
          refine key.mono ?_
          clear key
          rintro e w8 ⟨A8, c8, rfl, ho8, z1, z2, hk8⟩
          have hf8 := hk8.frm HM7.out
          have rF := hk8.row HF7.out HDF.out
          have rC := hk8.row HC7.out HDC.out
          have HM8 := Lib.hid hk8.m
          have HT8 := Lib.hid (HT7.out.mnd hf8)
          have HR8 := Lib.hid (HR7.out.frm hf8 (Nat.le_refl _) ref_mnd mndO_sp)
          have HH8 := Lib.hid (HH7.out.frm (hf8.mono mndO_sp))
          have HB8 := Lib.hid (HB7.out.trans (hk8.below HM7.out))
          have HC8 := Lib.hid rC.1
          have HDC8 := Lib.hid rC.2
          have key := told3_any X A8 c8 F v1 T3.length w8 (ho8.rds (B' := 0)) rF.1 HD.out.len.F (by omega) HX.out
          clear hf8 rF rC hk8 ho8 HM7 HT7 HR7 HH7 HB7 HF7 HC7 HDF HDC HX
          go_wp2_with fail
          refine key.mono ?_
          clear key
          rintro e w9 ⟨rfl, rfl⟩
          obtain ⟨AC, cC, eC⟩ := HC8.out.slice
          have lC : C.length = T3.length + 1 := HD.out.len.C
          rw [lC] at eC
          subst eC
          have LC := Lib.hid lC
          have hcC : T3.length + 1 ≤ cC := by
            obtain ⟨g, cap, e, q, -⟩ := HC8.out.at_ (p := 0) (by omega) (by omega)
            simp only [Value.slice.injEq] at e
            omega
          clear lC
          go_wp2_with fail
          go_loopw [12] (fun v wr => ∃ (j : Nat) (x1 x2 : Value), j ≤ T3.length + 1 ∧ v = .int .i64 j ∧ Hid (TabAt w1.heap.size wr (some ⟨tb, 0, none⟩) T3) ∧ Hid (IsRef w1.heap.size wr rb T3) ∧ Hid (MindV w1.heap.size wr mb (some ⟨tb, 0, none⟩) x1 x2 T3 (fun q => q ∈ H)) ∧ Hid (OwnZ wr w1.heap.size (.slice AH H.length cH) H) ∧ Hid (OwnB wr 0 (.slice AC (T3.length + 1) cC) C) ∧ Hid (∀ g, (Value.slice AC (T3.length + 1) cC).ownBlock = some g → ¬ mS mb x1 x2 g) ∧ Hid (Below w1.heap.size w1 wr)) (fun v _ => T3.length + 1 - (intOf v).toNat)
          case atStart => exact ⟨0, z1, z2, Nat.zero_le _, rfl, HT8, HR8, HM8, HH8, HC8.out.mono (Nat.zero_le _), HDC8, HB8⟩
          case round =>
            obtain ⟨j, x1, x2, hj, rfl, HTr, HRr, HMr, HHr, HCr, HDr, HBr⟩ := hrel
            obtain ⟨rA, rc, r0⟩ := HRr.out.len3
            by_cases hjl : j ≤ T3.length
            · have hle : (j : Int) ≤ (T3.length : Int) := by omega
              obtain ⟨g, cap, e, hcc, q⟩ := HCr.out.at_ (p := (j : Int)) (by omega) (by have := LC.out; omega)
              rw [LC.out] at e
              simp only [Value.slice.injEq] at e
              obtain ⟨rfl, -, rfl⟩ := e
              rw [Int.toNat_natCast] at q
              obtain ⟨b, hb⟩ : ∃ b, b = bget C (j : Int) := ⟨_, rfl⟩
              rw [← hb] at q
              have e2 : knB T3 (fun q => q ∈ H) false (j : Int) = b := by
                rw [hb]
                by_cases j1 : 1 ≤ j
                · exact (knB_of (HD.out.can (j : Int) (by omega))).symm
                · obtain rfl : j = 0 := by omega
                  rw [show ((0 : Nat) : Int) = 0 from rfl, HC0.out]
                  cases h9 : knB T3 (fun q => q ∈ H) false 0 with
                  | false => rfl
                  | true => have := (Kn.there HW.out (knB_true.1 h9)).1; omega
              have hne : (b != b) = false := by simp
              have hd : Below wr.heap.size wr wr.drew := (Below.refl _ _).drew
              have HMd := Lib.hid (HMr.out.below hd)
              have HTd := Lib.hid (HTr.out.below hd)
              have HCd := Lib.hid (HCr.out.below hd)
              have HRd := Lib.hid (HRr.out.below hd)
              have HHd := Lib.hid (HHr.out.below hd)
              have HBd := Lib.hid (HBr.out.trans (hd.mono HBr.out.size))
              have hgl : g < wr.heap.size := (HCr.out.lt g rfl).2
              have key := vcan_any (j : Int) (by omega) (wr.drew) HMd.out HTd.out
              rw [e2] at key
              have KEY := Lib.hid key
              have hj64 : (j : Int) < (T3.length : Int) + 1 := by omega
              clear hd hb e2 key hcc HMr HTr HCr HRr HHr HBr
              go_wp2_with fail
              clear r0
              go_region_held_law (fun w' => w'.cell? ⟨g, j, none⟩ = some (.bool b)) (first | exact z1 | go_keep) ((first
                | (go_at_call 17
                   refine KEY.out.mono ?_
                   rintro e w6 ⟨rfl, y1', y2', hk6⟩
                   have z1 : w6.cell? ⟨g, j, none⟩ = some (.bool b) := (World.cell?_of_block (hk6.fr.block _ hgl (HDr.out g rfl))).trans q
                   have HK6 := Lib.hid hk6
                   clear hk6)))
              all_goals
                have hf6 := HK6.out.frm HMd.out
                have rC := HK6.out.row HCd.out HDr.out
                have HT6 := Lib.hid (HTd.out.mnd hf6)
                have HR6 := Lib.hid (HRd.out.frm hf6 (Nat.le_refl _) ref_mnd mndO_sp)
                have HH6 := Lib.hid (HHd.out.frm (hf6.mono mndO_sp))
                have HB6 := Lib.hid (HBd.out.trans (HK6.out.below HMd.out))
                have HM6 := Lib.hid HK6.out.m
                have HC6 := Lib.hid rC.1
                have HD6 := Lib.hid rC.2
                clear hf6 rC HK6 HTd HBd HMd HRd HHd HCd HDr KEY z1 q
                go_wp2_with fail
                go_roundw
                case rel => exact ⟨j + 1, _, _, by omega, by go_num, HT6, HR6, HM6, HH6, HC6, HD6, HB6⟩
                case measure => simp [intOf]; omega
            · have hnl : ¬ ((j : Int) ≤ (T3.length : Int)) := by omega
              have HIE : Hid (LnI w1 tb rb mb (.slice AH H.length cH) T3 H wr) := ⟨HTr.out.isT, HRr.out, ⟨x1, x2, HMr.out⟩, HHr.out, HRG.out, HBr.out⟩
              go_wp2_with fail
              go_roundw
              case rel => exact ⟨k + 1, T3, H, by omega, by omega, by go_num, HIE⟩
              case measure => simp [intOf]; omega
      by_cases q6 : k % 7 = 6
      · have q6' : ((k : Int) % 7 != 6) = false := by simp; omega
        clear q6
        have key := find3_any H AH H.length cH w5 HI5.out.r HI5.out.bl.size (HI5.out.h.own.rds (B' := 0)) (by omega)
        go_wp2_with fail
        refine key.mono ?_
        clear key
        rintro e w7 ⟨v1, v2, F, C, rfl, hd, hc0, hoF, hoC, hb7⟩
        have hS : inT T3 H = fun q => q ∈ H := funext fun x => propext ⟨fun q => q.1, fun q => ⟨q, HI5.out.rg x q⟩⟩
        rw [hS] at hd
        obtain ⟨y1, y2, hmW⟩ := HI5.out.m
        have HM7 := Lib.hid (hmW.below hb7)
        have hms := hmW.sub
        have hdF : ∀ g, v1.ownBlock = some g → ¬ mS mb y1 y2 g := fun g e q => by have := (hoF.lt g e).1; have := (hms g q).2; omega
        have hdC : ∀ g, v2.ownBlock = some g → ¬ mS mb y1 y2 g := fun g e q => by have := (hoC.lt g e).1; have := (hms g q).2; omega
        have HT7 : Hid (TabAt w1.heap.size w7 (some ⟨tb, 0, none⟩) T3) := Lib.hid (.inr ⟨tb, rfl, HI5.out.t.below hb7⟩)
        have HR7 := Lib.hid (HI5.out.r.below hb7)
        have HH7 := Lib.hid (HI5.out.h.below hb7)
        have HB7 := Lib.hid (HI5.out.bl.trans (hb7.mono HI5.out.bl.size))
        have HRG := Lib.hid HI5.out.rg
        have HW := Lib.hid HI5.out.t.1
        have hT := HI5.out.t.1.len
        have HF7 := Lib.hid hoF
        have HC7 := Lib.hid hoC
        have HDF := Lib.hid hdF
        have HDC := Lib.hid hdC
        have HD := Lib.hid hd
        have HC0 := Lib.hid hc0
        obtain ⟨X, hX⟩ : ∃ X, X = knL T3 (fun q => q ∈ H) := ⟨_, rfl⟩
        have key := vknows_any w7 HM7.out HT7.out
        rw [← hX] at key
        have HX : Hid (X = folK F T3.length) := by show _ = _; rw [hX, folK_knL HD.out]
        clear hd hc0 hoF hoC hb7 hS hmW hms hdF hdC hX HI5
        go_wp2_with fail
        refine key.mono ?_
        clear key
        rintro e w8 ⟨A8, c8, rfl, ho8, z1, z2, hk8⟩
        have hf8 := hk8.frm HM7.out
        have rF := hk8.row HF7.out HDF.out
        have rC := hk8.row HC7.out HDC.out
        have HM8 := Lib.hid hk8.m
        have HT8 := Lib.hid (HT7.out.mnd hf8)
        have HR8 := Lib.hid (HR7.out.frm hf8 (Nat.le_refl _) ref_mnd mndO_sp)
        have HH8 := Lib.hid (HH7.out.frm (hf8.mono mndO_sp))
        have HB8 := Lib.hid (HB7.out.trans (hk8.below HM7.out))
        have HC8 := Lib.hid rC.1
        have HDC8 := Lib.hid rC.2
        have key := told3_any X A8 c8 F v1 T3.length w8 (ho8.rds (B' := 0)) rF.1 HD.out.len.F (by omega) HX.out
        clear hf8 rF rC hk8 ho8 HM7 HT7 HR7 HH7 HB7 HF7 HC7 HDF HDC HX
        go_wp2_with fail
        refine key.mono ?_
        clear key
        rintro e w9 ⟨rfl, rfl⟩
        obtain ⟨AC, cC, eC⟩ := HC8.out.slice
        have lC : C.length = T3.length + 1 := HD.out.len.C
        rw [lC] at eC
        subst eC
        have LC := Lib.hid lC
        have hcC : T3.length + 1 ≤ cC := by
          obtain ⟨g, cap, e, q, -⟩ := HC8.out.at_ (p := 0) (by omega) (by omega)
          simp only [Value.slice.injEq] at e
          omega
        clear lC
        go_wp2_with fail
        go_loopw [12] (fun v wr => ∃ (j : Nat) (x1 x2 : Value), j ≤ T3.length + 1 ∧ v = .int .i64 j ∧ Hid (TabAt w1.heap.size wr (some ⟨tb, 0, none⟩) T3) ∧ Hid (IsRef w1.heap.size wr rb T3) ∧ Hid (MindV w1.heap.size wr mb (some ⟨tb, 0, none⟩) x1 x2 T3 (fun q => q ∈ H)) ∧ Hid (OwnZ wr w1.heap.size (.slice AH H.length cH) H) ∧ Hid (OwnB wr 0 (.slice AC (T3.length + 1) cC) C) ∧ Hid (∀ g, (Value.slice AC (T3.length + 1) cC).ownBlock = some g → ¬ mS mb x1 x2 g) ∧ Hid (Below w1.heap.size w1 wr)) (fun v _ => T3.length + 1 - (intOf v).toNat)
        case atStart => exact ⟨0, z1, z2, Nat.zero_le _, rfl, HT8, HR8, HM8, HH8, HC8.out.mono (Nat.zero_le _), HDC8, HB8⟩
        case round =>
          obtain ⟨j, x1, x2, hj, rfl, HTr, HRr, HMr, HHr, HCr, HDr, HBr⟩ := hrel
          obtain ⟨rA, rc, r0⟩ := HRr.out.len3
          by_cases hjl : j ≤ T3.length
          · have hle : (j : Int) ≤ (T3.length : Int) := by omega
            obtain ⟨g, cap, e, hcc, q⟩ := HCr.out.at_ (p := (j : Int)) (by omega) (by have := LC.out; omega)
            rw [LC.out] at e
            simp only [Value.slice.injEq] at e
            obtain ⟨rfl, -, rfl⟩ := e
            rw [Int.toNat_natCast] at q
            obtain ⟨b, hb⟩ : ∃ b, b = bget C (j : Int) := ⟨_, rfl⟩
            rw [← hb] at q
            have e2 : knB T3 (fun q => q ∈ H) false (j : Int) = b := by
              rw [hb]
              by_cases j1 : 1 ≤ j
              · exact (knB_of (HD.out.can (j : Int) (by omega))).symm
              · obtain rfl : j = 0 := by omega
                rw [show ((0 : Nat) : Int) = 0 from rfl, HC0.out]
                cases h9 : knB T3 (fun q => q ∈ H) false 0 with
                | false => rfl
                | true => have := (Kn.there HW.out (knB_true.1 h9)).1; omega
            have hne : (b != b) = false := by simp
            have hd : Below wr.heap.size wr wr.drew := (Below.refl _ _).drew
            have HMd := Lib.hid (HMr.out.below hd)
            have HTd := Lib.hid (HTr.out.below hd)
            have HCd := Lib.hid (HCr.out.below hd)
            have HRd := Lib.hid (HRr.out.below hd)
            have HHd := Lib.hid (HHr.out.below hd)
            have HBd := Lib.hid (HBr.out.trans (hd.mono HBr.out.size))
            have hgl : g < wr.heap.size := (HCr.out.lt g rfl).2
            have key := vcan_any (j : Int) (by omega) (wr.drew) HMd.out HTd.out
            rw [e2] at key
            have KEY := Lib.hid key
            have hj64 : (j : Int) < (T3.length : Int) + 1 := by omega
            clear hd hb e2 key hcc HMr HTr HCr HRr HHr HBr
            go_wp2_with fail
            clear r0
            go_region_held_law (fun w' => w'.cell? ⟨g, j, none⟩ = some (.bool b)) (first | exact z1 | go_keep) ((first
              | (go_at_call 17
                 refine KEY.out.mono ?_
                 rintro e w6 ⟨rfl, y1', y2', hk6⟩
                 have z1 : w6.cell? ⟨g, j, none⟩ = some (.bool b) := (World.cell?_of_block (hk6.fr.block _ hgl (HDr.out g rfl))).trans q
                 have HK6 := Lib.hid hk6
                 clear hk6)))
            all_goals
              have hf6 := HK6.out.frm HMd.out
              have rC := HK6.out.row HCd.out HDr.out
              have HT6 := Lib.hid (HTd.out.mnd hf6)
              have HR6 := Lib.hid (HRd.out.frm hf6 (Nat.le_refl _) ref_mnd mndO_sp)
              have HH6 := Lib.hid (HHd.out.frm (hf6.mono mndO_sp))
              have HB6 := Lib.hid (HBd.out.trans (HK6.out.below HMd.out))
              have HM6 := Lib.hid HK6.out.m
              have HC6 := Lib.hid rC.1
              have HD6 := Lib.hid rC.2
              clear hf6 rC HK6 HTd HBd HMd HRd HHd HCd HDr KEY z1 q
              go_wp2_with fail
              go_roundw
              case rel => exact ⟨j + 1, _, _, by omega, by go_num, HT6, HR6, HM6, HH6, HC6, HD6, HB6⟩
              case measure => simp [intOf]; omega
          · have hnl : ¬ ((j : Int) ≤ (T3.length : Int)) := by omega
            have HIE : Hid (LnI w1 tb rb mb (.slice AH H.length cH) T3 H wr) := ⟨HTr.out.isT, HRr.out, ⟨x1, x2, HMr.out⟩, HHr.out, HRG.out, HBr.out⟩
            go_wp2_with fail
            go_roundw
            case rel => exact ⟨k + 1, T3, H, by omega, by omega, by go_num, HIE⟩
            case measure => simp [intOf]; omega
      have q6' : ((k : Int) % 7 != 6) = true := by simp; omega
      by_cases q7 : k + 1 < n
      · have q7' : (k : Int) + 1 < (n : Int) := by omega
        clear q6
        go_wp2_with fail
        go_roundw
        case rel => exact ⟨k + 1, T3, H, by omega, by omega, by go_num, HI5⟩
        case measure => simp [intOf]; omega
      have q7' : ¬ (k : Int) + 1 < (n : Int) := by omega
      clear q6
      have key := find3_any H AH H.length cH w5 HI5.out.r HI5.out.bl.size (HI5.out.h.own.rds (B' := 0)) (by omega)
      go_wp2_with fail
      refine key.mono ?_
      clear key
      rintro e w7 ⟨v1, v2, F, C, rfl, hd, hc0, hoF, hoC, hb7⟩
      have hS : inT T3 H = fun q => q ∈ H := funext fun x => propext ⟨fun q => q.1, fun q => ⟨q, HI5.out.rg x q⟩⟩
      rw [hS] at hd
      obtain ⟨y1, y2, hmW⟩ := HI5.out.m
      have HM7 := Lib.hid (hmW.below hb7)
      have hms := hmW.sub
      have hdF : ∀ g, v1.ownBlock = some g → ¬ mS mb y1 y2 g := fun g e q => by have := (hoF.lt g e).1; have := (hms g q).2; omega
      have hdC : ∀ g, v2.ownBlock = some g → ¬ mS mb y1 y2 g := fun g e q => by have := (hoC.lt g e).1; have := (hms g q).2; omega
      have HT7 : Hid (TabAt w1.heap.size w7 (some ⟨tb, 0, none⟩) T3) := Lib.hid (.inr ⟨tb, rfl, HI5.out.t.below hb7⟩)
      have HR7 := Lib.hid (HI5.out.r.below hb7)
      have HH7 := Lib.hid (HI5.out.h.below hb7)
      have HB7 := Lib.hid (HI5.out.bl.trans (hb7.mono HI5.out.bl.size))
      have HRG := Lib.hid HI5.out.rg
      have HW := Lib.hid HI5.out.t.1
      have hT := HI5.out.t.1.len
      have HF7 := Lib.hid hoF
      have HC7 := Lib.hid hoC
      have HDF := Lib.hid hdF
      have HDC := Lib.hid hdC
      have HD := Lib.hid hd
      have HC0 := Lib.hid hc0
      obtain ⟨X, hX⟩ : ∃ X, X = knL T3 (fun q => q ∈ H) := ⟨_, rfl⟩
      have key := vknows_any w7 HM7.out HT7.out
      rw [← hX] at key
      have HX : Hid (X = folK F T3.length) := by show _ = _; rw [hX, folK_knL HD.out]
      clear hd hc0 hoF hoC hb7 hS hmW hms hdF hdC hX HI5
      go_wp2_with fail
      refine key.mono ?_
      clear key
      rintro e w8 ⟨A8, c8, rfl, ho8, z1, z2, hk8⟩
      have hf8 := hk8.frm HM7.out
      have rF := hk8.row HF7.out HDF.out
      have rC := hk8.row HC7.out HDC.out
      have HM8 := Lib.hid hk8.m
      have HT8 := Lib.hid (HT7.out.mnd hf8)
      have HR8 := Lib.hid (HR7.out.frm hf8 (Nat.le_refl _) ref_mnd mndO_sp)
      have HH8 := Lib.hid (HH7.out.frm (hf8.mono mndO_sp))
      have HB8 := Lib.hid (HB7.out.trans (hk8.below HM7.out))
      have HC8 := Lib.hid rC.1
      have HDC8 := Lib.hid rC.2
      have key := told3_any X A8 c8 F v1 T3.length w8 (ho8.rds (B' := 0)) rF.1 HD.out.len.F (by omega) HX.out
      clear hf8 rF rC hk8 ho8 HM7 HT7 HR7 HH7 HB7 HF7 HC7 HDF HDC HX
      go_wp2_with fail
      refine key.mono ?_
      clear key
      rintro e w9 ⟨rfl, rfl⟩
      obtain ⟨AC, cC, eC⟩ := HC8.out.slice
      have lC : C.length = T3.length + 1 := HD.out.len.C
      rw [lC] at eC
      subst eC
      have LC := Lib.hid lC
      have hcC : T3.length + 1 ≤ cC := by
        obtain ⟨g, cap, e, q, -⟩ := HC8.out.at_ (p := 0) (by omega) (by omega)
        simp only [Value.slice.injEq] at e
        omega
      clear lC
      go_wp2_with fail
      go_loopw [12] (fun v wr => ∃ (j : Nat) (x1 x2 : Value), j ≤ T3.length + 1 ∧ v = .int .i64 j ∧ Hid (TabAt w1.heap.size wr (some ⟨tb, 0, none⟩) T3) ∧ Hid (IsRef w1.heap.size wr rb T3) ∧ Hid (MindV w1.heap.size wr mb (some ⟨tb, 0, none⟩) x1 x2 T3 (fun q => q ∈ H)) ∧ Hid (OwnZ wr w1.heap.size (.slice AH H.length cH) H) ∧ Hid (OwnB wr 0 (.slice AC (T3.length + 1) cC) C) ∧ Hid (∀ g, (Value.slice AC (T3.length + 1) cC).ownBlock = some g → ¬ mS mb x1 x2 g) ∧ Hid (Below w1.heap.size w1 wr)) (fun v _ => T3.length + 1 - (intOf v).toNat)
      case atStart => exact ⟨0, z1, z2, Nat.zero_le _, rfl, HT8, HR8, HM8, HH8, HC8.out.mono (Nat.zero_le _), HDC8, HB8⟩
      case round =>
        obtain ⟨j, x1, x2, hj, rfl, HTr, HRr, HMr, HHr, HCr, HDr, HBr⟩ := hrel
        obtain ⟨rA, rc, r0⟩ := HRr.out.len3
        by_cases hjl : j ≤ T3.length
        · have hle : (j : Int) ≤ (T3.length : Int) := by omega
          obtain ⟨g, cap, e, hcc, q⟩ := HCr.out.at_ (p := (j : Int)) (by omega) (by have := LC.out; omega)
          rw [LC.out] at e
          simp only [Value.slice.injEq] at e
          obtain ⟨rfl, -, rfl⟩ := e
          rw [Int.toNat_natCast] at q
          obtain ⟨b, hb⟩ : ∃ b, b = bget C (j : Int) := ⟨_, rfl⟩
          rw [← hb] at q
          have e2 : knB T3 (fun q => q ∈ H) false (j : Int) = b := by
            rw [hb]
            by_cases j1 : 1 ≤ j
            · exact (knB_of (HD.out.can (j : Int) (by omega))).symm
            · obtain rfl : j = 0 := by omega
              rw [show ((0 : Nat) : Int) = 0 from rfl, HC0.out]
              cases h9 : knB T3 (fun q => q ∈ H) false 0 with
              | false => rfl
              | true => have := (Kn.there HW.out (knB_true.1 h9)).1; omega
          have hne : (b != b) = false := by simp
          have hd : Below wr.heap.size wr wr.drew := (Below.refl _ _).drew
          have HMd := Lib.hid (HMr.out.below hd)
          have HTd := Lib.hid (HTr.out.below hd)
          have HCd := Lib.hid (HCr.out.below hd)
          have HRd := Lib.hid (HRr.out.below hd)
          have HHd := Lib.hid (HHr.out.below hd)
          have HBd := Lib.hid (HBr.out.trans (hd.mono HBr.out.size))
          have hgl : g < wr.heap.size := (HCr.out.lt g rfl).2
          have key := vcan_any (j : Int) (by omega) (wr.drew) HMd.out HTd.out
          rw [e2] at key
          have KEY := Lib.hid key
          have hj64 : (j : Int) < (T3.length : Int) + 1 := by omega
          clear hd hb e2 key hcc HMr HTr HCr HRr HHr HBr
          go_wp2_with fail
          clear r0
          go_region_held_law (fun w' => w'.cell? ⟨g, j, none⟩ = some (.bool b)) (first | exact z1 | go_keep) ((first
            | (go_at_call 17
               refine KEY.out.mono ?_
               rintro e w6 ⟨rfl, y1', y2', hk6⟩
               have z1 : w6.cell? ⟨g, j, none⟩ = some (.bool b) := (World.cell?_of_block (hk6.fr.block _ hgl (HDr.out g rfl))).trans q
               have HK6 := Lib.hid hk6
               clear hk6)))
          all_goals
            have hf6 := HK6.out.frm HMd.out
            have rC := HK6.out.row HCd.out HDr.out
            have HT6 := Lib.hid (HTd.out.mnd hf6)
            have HR6 := Lib.hid (HRd.out.frm hf6 (Nat.le_refl _) ref_mnd mndO_sp)
            have HH6 := Lib.hid (HHd.out.frm (hf6.mono mndO_sp))
            have HB6 := Lib.hid (HBd.out.trans (HK6.out.below HMd.out))
            have HM6 := Lib.hid HK6.out.m
            have HC6 := Lib.hid rC.1
            have HD6 := Lib.hid rC.2
            clear hf6 rC HK6 HTd HBd HMd HRd HHd HCd HDr KEY z1 q
            go_wp2_with fail
            go_roundw
            case rel => exact ⟨j + 1, _, _, by omega, by go_num, HT6, HR6, HM6, HH6, HC6, HD6, HB6⟩
            case measure => simp [intOf]; omega
        · have hnl : ¬ ((j : Int) ≤ (T3.length : Int)) := by omega
          have HIE : Hid (LnI w1 tb rb mb (.slice AH H.length cH) T3 H wr) := ⟨HTr.out.isT, HRr.out, ⟨x1, x2, HMr.out⟩, HHr.out, HRG.out, HBr.out⟩
          go_wp2_with fail
          go_roundw
          case rel => exact ⟨k + 1, T3, H, by omega, by omega, by go_num, HIE⟩
          case measure => simp [intOf]; omega
    · obtain rfl : k = n := by omega
      go_wp2_with fail
      refine (awake03_any wr).mono ?_
      rintro e wz ⟨rfl, hbz⟩
      have HBz := Lib.hid (HI.out.bl.trans (hbz.mono HI.out.bl.size))
      go_wp2_with fail
      go_ret
      exact ⟨rfl, HBz.out⟩
theorem learns_row {A : Option Addr} {n c : Nat} {A2 : Option Addr} {n2 c2 : Nat} (w : World) (h0 : ∃ S, SpsAt3 w.heap.size w A n S) (h1 : IntsArg w A2 n2 c2) : Calls Try.prog 3 #[.slice A n c, .slice A2 n2 c2] w (AwakePost w) := by
  obtain ⟨S, hS⟩ := h0
  obtain ⟨xs, hr, -⟩ := h1
  exact learns_any A n c S A2 n2 c2 xs w hS hr
end Go.Proofs.Ytmaedahleenlgaa
