/- The walk of TermMakes. No condition. -/
import Derived.Test.YtoelbhmgmlnieaaDo
import Derived.Test.YtoelbhmgmlnieaaStepsR
set_option linter.unusedVariables false
set_option linter.unusedSimpArgs false
namespace Go.Proofs.Ytoelbhmgmlnieaa
open Go Go.RowKit Go.WideMaps

theorem ref_nil {B g : Nat} {w : World} (hB : B ≤ g) (hg : w.heap.size = g) : IsRef B (w.alloc (.cells #[.slice none 0 0] 77)) g [] := by
  subst hg
  exact ⟨wfT_nil, hB, _, [], heap_alloc_new w _, World.ownsRow_nil _ _ _ _, ⟨fun i n h => by simp at h, fun i n h => by simp at h, fun i n h => by simp at h⟩⟩
theorem IsRef.len {B : Nat} {w : World} {rb : Nat} {T : List Nd} (h : IsRef B w rb T) : ∃ rA rc, w.cell? ⟨rb, 0, none⟩ = some (.slice rA T.length rc) := by
  obtain ⟨_, _, v, cs, q1, q2, _⟩ := h
  obtain ⟨rA, rc, rfl⟩ := owned_slice q2
  exact ⟨rA, rc, by rw [cell_of_row w _ 0 _ _ _ q1]; rfl⟩
theorem IsRef.node {B : Nat} {w : World} {rb : Nat} {T : List Nd} (h : IsRef B w rb T) {i : Nat} {n : Nd} (hi : T[i]? = some n) : ∃ g rc AP cP, w.cell? ⟨rb, 0, none⟩ = some (.slice (some ⟨g, 0, none⟩) T.length rc) ∧ w.cell? ⟨g, i * 3, none⟩ = some (.int .i64 n.kind) ∧ w.cell? ⟨g, i * 3 + 1, none⟩ = some (.string n.text) ∧ w.cell? ⟨g, i * 3 + 2, none⟩ = some (.slice AP n.parts.length cP) ∧ Rds B w .i64 AP n.parts.length cP n.parts := by
  have hl := (List.getElem?_eq_some_iff.1 hi).1
  obtain ⟨_, _, v, cs, q1, q2, q3⟩ := h
  obtain ⟨rA, rc, rfl⟩ := owned_slice q2
  obtain ⟨g, cap, e1, hfrm⟩ := q2.form (by omega)
  cases e1
  obtain ⟨AP, cP, hp1, hp2⟩ := q3.parts i n hi
  exact ⟨g, _, AP, cP, by rw [cell_of_row w _ 0 _ _ _ q1]; rfl, by rw [q2.cellAt _ (by have := q2.1; omega)]; exact q3.kind i n hi, by rw [q2.cellAt _ (by have := q2.1; omega)]; exact q3.text i n hi, by rw [q2.cellAt _ (by have := q2.1; omega)]; exact hp1, hp2⟩

set_option maxHeartbeats 3200000 in
set_option maxRecDepth 100000 in
theorem makes_walk (w : World) (A : Option Addr) (n c : Nat) (S : List Sp) (h : SpsAt w.heap.size w A n S) :
    Calls Try.prog 9 #[.slice A n c] w (AwakePost w) := by
  have HS := Lib.hid h
  clear h
  go_enter Try.func9, Try.ntmps9
  by_cases ha : 60 < n
  · go_wp2_with fail
    go_ret
    exact ⟨rfl, Below.refl _ _⟩
  go_wp2_with fail
  refine (new_any w).mono ?_
  rintro e w1 ⟨tb, rfl, ht1, hb1⟩
  have HT1 := Lib.hid ht1
  have HB1 := Lib.hid hb1
  have hs1 := hb1.size
  clear ht1 hb1
  go_wp2_with fail
  obtain ⟨rb, hrb⟩ : ∃ rb, w1.heap.size = rb := ⟨_, rfl⟩
  have HR2 := Lib.hid (ref_nil (B := w.heap.size) (w := w1) (by omega) hrb)
  obtain ⟨w2, hw2⟩ : ∃ w2, w2 = w1.alloc (.cells #[.slice none 0 0] 77) := ⟨_, rfl⟩
  have HT2 : Hid (IsTab w.heap.size w2 tb []) := by rw [hw2]; exact HT1.out.below (below_new _)
  have HB2 : Hid (Below w.heap.size w w2) := by rw [hw2]; exact HB1.out.alloc hs1 _
  rw [← hw2] at HR2 ⊢
  rw [hrb]
  clear hw2 HT1 HB1 hrb hs1
  go_wp2_with fail
  go_loopw [5] (fun i wr => ∃ (k : Nat) (T : List Nd), k ≤ n ∧ i = .int .i64 k ∧ IsTab w.heap.size wr tb T ∧ IsRef w.heap.size wr rb T ∧ Below w.heap.size w wr) (fun i _ => n - (intOf i).toNat)
  case atStart => exact ⟨0, [], Nat.zero_le _, rfl, HT2.out, HR2.out, HB2.out⟩
  case round =>
    obtain ⟨k, T, hk, rfl, ht, hr, hb⟩ := hrel
    have HT := Lib.hid ht
    have HR := Lib.hid hr
    have HB := Lib.hid hb
    clear ht hr hb HT2 HR2 HB2
    by_cases hlt : k < n
    · obtain ⟨s, hs⟩ : ∃ s, S[k]? = some s := ⟨_, List.getElem?_eq_getElem (by have := HS.out.1; omega)⟩
      obtain ⟨b0, o0, rfl, hlb⟩ := HS.out.2.1 (by omega)
      obtain ⟨b, o, eA, hsp⟩ := HS.out.2.2 k s hs
      cases eA
      obtain ⟨x0, x1, ⟨AP, cP, x2, HP⟩, x3, hin, hall⟩ := hsp.below HB.out hlb
      have hP := Lib.hid HP
      have hAll := Lib.hid hall
      obtain ⟨hi0, hi1⟩ := hin
      clear HP hs hsp hall
      by_cases c1 : 100 < s.text.size
      · go_wp2_with fail
        go_ret
        exact ⟨rfl, HB.out⟩
      by_cases c2 : 20 < s.parts.length
      · go_wp2_with fail
        go_ret
        exact ⟨rfl, HB.out⟩
      go_wp2_with fail
      refine (do_any s.kind s.text AP _ cP s.parts s.near wr HT.out HR.out hP.out hAll.out (by omega) (by omega)).mono ?_
      rintro e w3 p3
      obtain ⟨⟨T3, h3⟩, he3⟩ : ∃ r, stepT T s.kind s.text (partsT s.near T.length s.parts) = r := ⟨_, rfl⟩
      obtain ⟨rfl, ht3, hr3, hf3⟩ := p3.intro he3
      have HT3 := Lib.hid ht3
      have HR3 := Lib.hid hr3
      have HB3 := Lib.hid (HB.out.trans (hf3.below HB.out.size))
      have hneq : (h3 != h3) = false := by simp
      clear p3 ht3 hr3 hf3 HT HR HB he3 x0 x1 x2 x3 hP hAll
      go_wp2_with fail
      go_roundw
      case rel => exact ⟨k + 1, T3, by omega, by go_num, HT3.out, HR3.out, HB3.out⟩
      case measure => simp [intOf]; omega
    · obtain ⟨rA, rc, r0⟩ := HR.out.len
      have hT := HT.out.1.len
      go_wp2_with fail
      go_region_held3 (fun w' => w'.cell? ⟨rb, 0, none⟩ = some (.slice rA T.length rc)) (first | go_keep) ((first
        | (go_at_call 44
           refine (size_any _ (HT.out.below ((Below.refl _ _).drew))).mono ?_
           rintro e w2 ⟨rfl, rfl⟩)))
      all_goals
        have HT2 := Lib.hid (HT.out.below ((Below.refl _ _).drew))
        have HR2 := Lib.hid (HR.out.below ((Below.refl _ _).drew))
        have HB2 := Lib.hid (HB.out.drew)
        have hneq : ((T.length : Int) != (T.length : Int)) = false := by simp
        clear HT HR HB
        obtain ⟨W, hW⟩ : ∃ W, W = wr.drew := ⟨_, rfl⟩
        rw [← hW] at HT2 HR2 HB2 ⊢
        clear hW r0
        go_wp2_with fail
        go_loopw [8] (fun i wz => ∃ j : Nat, j ≤ T.length + 3 ∧ i = .int .i64 ((j : Int) - 1) ∧ IsTab w.heap.size wz tb T ∧ IsRef w.heap.size wz rb T ∧ Below w.heap.size w wz) (fun i _ => ((T.length : Int) + 2 - intOf i).toNat)
        case atStart => exact ⟨0, Nat.zero_le _, rfl, HT2.out, HR2.out, HB2.out⟩
        case round =>
          obtain ⟨j, hj, rfl, ht, hr, hb⟩ := hrel
          have HT := Lib.hid ht
          have HR := Lib.hid hr
          have HB := Lib.hid hb
          have hsz := hb.size
          clear ht hr hb HT2 HR2 HB2
          obtain ⟨rA, rc, r0⟩ := HR.out.len
          by_cases hlt : j ≤ T.length + 2
          · have hle : (j : Int) - 1 ≤ (T.length : Int) + 1 := by omega
            go_wp2_with fail
            refine (look_any ((j : Int) - 1) _ HT.out (by omega) (by omega)).mono ?_
            rintro e w5 ⟨A5, c5, rfl, ho5, hb5⟩
            have HT5 := Lib.hid (HT.out.below hb5)
            have HR5 := Lib.hid (HR.out.below hb5)
            have HB5 := Lib.hid (below_next HB.out hsz hb5)
            have hs5 := HB5.out.size
            have HO5 := Lib.hid ho5
            clear ho5 hb5 HT HR HB r0
            by_cases hin : 2 ≤ j ∧ j ≤ T.length + 1
            · obtain ⟨i, rfl⟩ : ∃ i, j = i + 2 := ⟨j - 2, by omega⟩
              have hiT : i < T.length := by omega
              obtain ⟨nd, hnd⟩ : ∃ nd, T[i]? = some nd := ⟨_, List.getElem?_eq_getElem hiT⟩
              obtain ⟨x, hx⟩ : ∃ x : Int, x = (i : Int) + 1 := ⟨_, rfl⟩
              have hcast : (((i + 2 : Nat) : Int) - 1) = x := by omega
              rw [hcast] at HO5 hle ⊢
              have hg : getT T x = some nd := by rw [hx]; exact (getT_nat i).trans hnd
              rw [show nodeT T x = nd from by unfold nodeT; rw [hg]; rfl] at HO5 ⊢
              rw [show (getT T x).isSome = true from by rw [hg]; rfl]
              obtain ⟨W, hW⟩ : ∃ W, W = w5.alloc (.cells #[.int .i64 nd.kind, .string nd.text, .slice A5 nd.parts.length c5] 84) := ⟨_, rfl⟩
              have q0 : W.cell? ⟨w5.heap.size, 0, none⟩ = some (.int .i64 nd.kind) := by rw [hW]; simp [go_sem]
              have q1 : W.cell? ⟨w5.heap.size, 1, none⟩ = some (.string nd.text) := by rw [hW]; simp [go_sem]
              have q2 : W.cell? ⟨w5.heap.size, 2, none⟩ = some (.slice A5 nd.parts.length c5) := by rw [hW]; simp [go_sem]
              have HTW : Hid (IsTab w.heap.size W tb T) := by rw [hW]; exact HT5.out.below (below_new _)
              have HRW : Hid (IsRef w.heap.size W rb T) := by rw [hW]; exact HR5.out.below (below_new _)
              have HBW : Hid (Below w.heap.size w W) := by rw [hW]; exact HB5.out.alloc hs5 _
              have HOW : Hid (OwnI W 0 .i64 (.slice A5 nd.parts.length c5) nd.parts) := by rw [hW]; exact (HO5.out.below (below_new _)).mono (Nat.zero_le _)
              obtain ⟨rg, rc', AP, cP, s0, s1, s2, s3, hrp⟩ := HRW.out.node hnd
              have r0 := s0
              rw [hW] at r0
              have HRP := Lib.hid hrp
              have hi0 : (0 : Int) ≤ (i : Int) := by omega
              have hi1 : (i : Int) < (T.length : Int) := by omega
              have hw1 : IntKind.i64.wrap (x - 1) = (i : Int) := by rw [IntKind.wrap_i64]; omega
              have hl1 : ¬ (x < 1) := by omega
              have hl2 : ¬ ((T.length : Int) < x) := by omega
              have HX := Lib.hid hx
              clear hrp hcast hg hnd HT5 HR5 HB5 HO5 hx
              go_wp2_with fail
              rw [← hW]
              clear hW r0
              go_region_held3 (fun w' => w'.cell? ⟨w5.heap.size, 0, none⟩ = some (.int .i64 nd.kind) ∧ w'.cell? ⟨w5.heap.size, 1, none⟩ = some (.string nd.text) ∧ w'.cell? ⟨w5.heap.size, 2, none⟩ = some (.slice A5 nd.parts.length c5) ∧ w'.cell? ⟨rb, 0, none⟩ = some (.slice (some ⟨rg, 0, none⟩) T.length rc') ∧
                  w'.cell? ⟨rg, i * 3, none⟩ = some (.int .i64 nd.kind) ∧ w'.cell? ⟨rg, i * 3 + 1, none⟩ = some (.string nd.text) ∧ w'.cell? ⟨rg, i * 3 + 2, none⟩ = some (.slice AP nd.parts.length cP))
                (first | exact ⟨z0, z1, z2, z3, z4, z5, z6⟩ | go_keep) ((first
                | (go_at_call 46
                   refine (told_same (B0 := 0) (B1 := w.heap.size) nd.kind nd.text A5 AP nd.parts.length c5 cP nd.parts _ ((HOW.out.below ((Below.refl _ _).drew)).rds) (HRP.out.below ((Below.refl _ _).drew))).mono ?_
                   rintro e w6 ⟨rfl, hb6⟩
                   have z0 := cell_later hb6 (a := ⟨w5.heap.size, 0, none⟩) q0
                   have z1 := cell_later hb6 (a := ⟨w5.heap.size, 1, none⟩) q1
                   have z2 := cell_later hb6 (a := ⟨w5.heap.size, 2, none⟩) q2
                   have z3 := cell_later hb6 (a := ⟨rb, 0, none⟩) s0
                   have z4 := cell_later hb6 (a := ⟨rg, i * 3, none⟩) s1
                   have z5 := cell_later hb6 (a := ⟨rg, i * 3 + 1, none⟩) s2
                   have z6 := cell_later hb6 (a := ⟨rg, i * 3 + 2, none⟩) s3
                   have HBC : Hid (Below W.heap.size W w6) := (Below.drew (Below.refl W.heap.size W)).trans hb6
                   clear hb6)))
              all_goals
                have HT6 := Lib.hid (HTW.out.below HBC.out)
                have HR6 := Lib.hid (HRW.out.below HBC.out)
                have HB6 := Lib.hid (below_next HBW.out HBW.out.size HBC.out)
                have hw2 : IntKind.i64.wrap (x + 1) = x + 1 := by have := HX.out; rw [IntKind.wrap_i64]; omega
                clear q0 q1 q2 s0 s1 s2 s3 z0 z1 z2 z3 z4 z5 z6 HTW HRW HBW HBC HOW HRP
                go_wp2_with fail
                go_roundw
                case rel => exact ⟨i + 3, by omega, by have := HX.out; go_num, HT6.out, HR6.out, HB6.out⟩
                case measure => have := HX.out; simp [intOf]; omega
            · have hg : getT T ((j : Int) - 1) = none := getT_none (by omega)
              rw [show nodeT T ((j : Int) - 1) = ⟨0, ByteArray.empty, []⟩ from by unfold nodeT; rw [hg]; rfl] at HO5 ⊢
              rw [show (getT T ((j : Int) - 1)).isSome = false from by rw [hg]; rfl]
              obtain ⟨x, hx⟩ : ∃ x : Int, x = (j : Int) - 1 := ⟨_, rfl⟩
              rw [← hx] at hle ⊢
              obtain ⟨_, _, r0⟩ := HR5.out.len
              have HTW := Lib.hid (HT5.out.below (below_new (.cells #[.int .i64 0, .string ByteArray.empty, .slice A5 0 c5] 84)))
              have HRW := Lib.hid (HR5.out.below (below_new (.cells #[.int .i64 0, .string ByteArray.empty, .slice A5 0 c5] 84)))
              have HBW := Lib.hid (HB5.out.alloc hs5 (.cells #[.int .i64 0, .string ByteArray.empty, .slice A5 0 c5] 84))
              have HOW := Lib.hid (HO5.out.below (below_new (.cells #[.int .i64 0, .string ByteArray.empty, .slice A5 0 c5] 84)))
              have r1 : (w5.alloc (.cells #[.int .i64 0, .string ByteArray.empty, .slice A5 0 c5] 84)).cell? ⟨rb, 0, none⟩ = _ := (World.cell?_alloc_lt _ _ _ (HR5.out.lt)).trans r0
              have hor : x < 1 ∨ (T.length : Int) < x := by omega
              have HX := Lib.hid hx
              clear hx hg HT5 HR5 HB5 HO5
              by_cases hx1 : x < 1
              · go_wp2_with fail
                refine (told_same (B0 := 0) (B1 := 0) 0 ByteArray.empty A5 none 0 c5 0 [] _ HOW.out.rds (Rds.nil _ _ _)).mono ?_
                rintro e w6 ⟨rfl, hb6⟩
                have HT6 := Lib.hid (HTW.out.below hb6)
                have HR6 := Lib.hid (HRW.out.below hb6)
                have HB6 := Lib.hid (below_next HBW.out HBW.out.size hb6)
                have hw2 : IntKind.i64.wrap (x + 1) = x + 1 := by have := HX.out; rw [IntKind.wrap_i64]; omega
                clear hb6 HTW HRW HBW HOW r0 r1
                go_wp2_with fail
                go_roundw
                case rel => exact ⟨j + 1, by omega, by have := HX.out; go_num, HT6.out, HR6.out, HB6.out⟩
                case measure => have := HX.out; simp [intOf]; omega
              · have hx2 : (T.length : Int) < x := by omega
                go_wp2_with fail
                refine (told_same (B0 := 0) (B1 := 0) 0 ByteArray.empty A5 none 0 c5 0 [] _ HOW.out.rds (Rds.nil _ _ _)).mono ?_
                rintro e w6 ⟨rfl, hb6⟩
                have HT6 := Lib.hid (HTW.out.below hb6)
                have HR6 := Lib.hid (HRW.out.below hb6)
                have HB6 := Lib.hid (below_next HBW.out HBW.out.size hb6)
                have hw2 : IntKind.i64.wrap (x + 1) = x + 1 := by have := HX.out; rw [IntKind.wrap_i64]; omega
                clear hb6 HTW HRW HBW HOW r0 r1
                go_wp2_with fail
                go_roundw
                case rel => exact ⟨j + 1, by omega, by have := HX.out; go_num, HT6.out, HR6.out, HB6.out⟩
                case measure => have := HX.out; simp [intOf]; omega
          · obtain rfl : j = T.length + 3 := by omega
            go_wp2_with fail
            refine (awake02_any _).mono ?_
            rintro e w9 ⟨rfl, hb9⟩
            have HB9 := Lib.hid (below_next HB.out HB.out.size hb9)
            clear hb9
            go_wp2_with fail
            go_ret
            exact ⟨rfl, HB9.out⟩
theorem makes_row {A : Option Addr} {n c : Nat} (w : World) (h : ∃ S, SpsAt w.heap.size w A n S) : Calls Try.prog 9 #[.slice A n c] w fun e w' => e = .returned (.bool true) ∧ Below w.heap.size w w' := by
  obtain ⟨S, hS⟩ := h
  exact makes_walk w A n c S hS
end Go.Proofs.Ytoelbhmgmlnieaa
