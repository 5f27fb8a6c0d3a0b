/- The reference's table: Text, Secret, Make. No condition. -/
import Derived.Test.YtmaedahleenlgaaRefAdd
set_option linter.unusedVariables false
set_option linter.unusedSimpArgs false
namespace Go.Proofs.Ytmaedahleenlgaa
open Go Go.RowKit Go.WideMaps

theorem rpost_same {B rb : Nat} {w w' : World} {T : List Nd} {h : Int} (ht : IsRef B w rb T) (hb : Below w.heap.size w w') : RAddPost B rb w (T, h) (.returned (.int .i64 h)) w' := ⟨rfl, ht.below hb, .of_below hb⟩
theorem rpost_after {B rb : Nat} {w w1 : World} {r : List Nd × Int} {e : Ending} {w' : World} (hb : Below w.heap.size w w1) (p : RAddPost B rb w1 r e w') : RAddPost B rb w r e w' := ⟨p.1, p.2.1, (Frm.of_below hb).trans p.2.2⟩
set_option maxRecDepth 100000 in
theorem secret02_any {B rb : Nat} {T : List Nd} (w : World) (ht : IsRef B w rb T) : Calls Try.prog 28 #[.pointer (some ⟨rb, 0, none⟩)] w (RAddPost B rb w (secretT T)) := by
  have HT := Lib.hid ht; clear ht
  go_enter Try.func28, Try.ntmps28
  go_wp2_with fail
  refine (add02_any (T := T) 2 ByteArray.empty none 0 0 [] w HT.out (good_secret T) (Rds.nil _ _ _)).mono ?_
  rintro e w1 h
  have H := Lib.hid h
  obtain ⟨rfl, -, -⟩ := h
  go_wp2_with fail
  go_ret
  exact H.out
set_option maxRecDepth 100000 in
theorem text02_any {B rb : Nat} {T : List Nd} (b : ByteArray) (w : World) (ht : IsRef B w rb T) : Calls Try.prog 26 #[.pointer (some ⟨rb, 0, none⟩), .string b] w (RAddPost B rb w (textT T b)) := by
  have HT := Lib.hid ht; clear ht
  go_enter Try.func26, Try.ntmps26
  by_cases hb : 2048 < b.size
  · go_wp2_with fail
    go_ret
    rw [show textT T b = (T, 0) from if_neg (by omega)]
    exact rpost_same HT.out (Below.refl _ _)
  have he : Hid (textT T b = addT T ⟨1, b, []⟩) := if_pos (by omega)
  go_wp2_with fail
  refine (add02_any (T := T) 1 b none 0 0 [] w HT.out (good_text T (by omega)) (Rds.nil _ _ _)).mono ?_
  rintro e w1 h
  have H := Lib.hid h
  obtain ⟨rfl, -, -⟩ := h
  go_wp2_with fail
  go_ret
  rw [he.out]
  exact H.out
theorem rmake_done {B rb : Nat} {T : List Nd} {kind : Int} {parts own : List Int} {w w2 : World} {e : Ending} {w' : World} (h : (0 : Int) ∉ parts.map (kindT T)) (h' : formedT kind (parts.map (kindT T)) = true) (ho : ownT T kind parts = own) (hf : Below w.heap.size w w2) (ha : RAddPost B rb w2 (addT T ⟨kind, ByteArray.empty, own⟩) e w') : RAddPost B rb w (makeT T kind parts) e w' := by
  subst ho
  rw [make_yes h h']
  exact rpost_after hf ha

theorem rds_two {W : World} {g : Nat} (hg : W.heap.size = g) (a b : Int) (B : Nat) : Rds B (W.alloc (.cells #[.int .i64 a, .int .i64 b] 3)) .i64 (some ⟨g, 0, none⟩) 2 2 [a, b] := by
  subst hg
  exact (OwnI.fresh (B := 0) (xs := [a, b]) (Nat.zero_le _) sp_int (by simp)).rds
theorem size_two (W : World) (q : Nat) (p : Addr) (u : Value) (o : Obj) : (((W.alloc o).drewN q).setCell p u).heap.size = W.heap.size + 1 := by
  have h : ((W.alloc o).drewN q).heap.size = W.heap.size + 1 := by
    show (W.alloc o).heap.size = _
    simp
  simp [h]
set_option maxHeartbeats 6400000 in
set_option maxRecDepth 100000 in
theorem make02_any {B B' rb : Nat} {T : List Nd} (kind : Int) (A : Option Addr) (n c : Nat) (parts : List Int) (w : World) (ht : IsRef B w rb T) (hr : Rds B' w .i64 A n c parts) (hx : I64 parts) (hn : n ≤ 1000000) :
    Calls Try.prog 30 #[.pointer (some ⟨rb, 0, none⟩), .int .i64 kind, .slice A n c] w (RAddPost B rb w (makeT T kind parts)) := by
  have HT := Lib.hid ht; clear ht
  have HR := Lib.hid hr; clear hr
  have HX := Lib.hid hx; clear hx
  have hl := Lib.hid HR.out.len
  go_enter Try.func30, Try.ntmps30
  go_wp2_with fail
  go_loop [7] (fun i => ∃ k : Nat, k ≤ n ∧ i = .int .i64 k ∧ Hid (∀ j, j < k → kindT T (nth parts j) ≠ 0)) (fun i => n - (intOf i).toNat)
  case atStart => exact ⟨0, Nat.zero_le _, rfl, fun j hj => by omega⟩
  case round =>
    obtain ⟨k, hk, rfl, hq⟩ := hrel
    by_cases hlt : k < n
    · obtain ⟨b, o, rfl, hcx⟩ := RdI.at_ HR.out.cell (by have := hl.out; omega)
      have g1 := hcx k (by have := hl.out; omega)
      clear hcx
      have hki := HX.out.nth k
      go_wp2_with fail
      refine (kind02_any (nth parts k) w HT.out hki.1 hki.2).mono ?_
      rintro e w1 ⟨rfl, rfl⟩
      by_cases hz : kindT T (nth parts k) = 0
      · have hz' : (kindT T (nth parts k) == 0) = true := by simp [hz]
        have HZ : Hid ((0 : Int) ∈ parts.map (kindT T)) := List.mem_map.2 ⟨nth parts k, nth_mem (by have := hl.out; omega), hz⟩
        clear hz
        go_wp2_with fail
        go_ret
        rw [make_no1 HZ.out]
        exact rpost_same HT.out (Below.refl _ _)
      · have hz' : (kindT T (nth parts k) == 0) = false := by simp [hz]
        have HZ := Lib.hid hz
        clear hz
        go_wp2_with fail
        go_round
        case rel => exact ⟨k + 1, by omega, by go_num, fun j hj => by
          rcases Nat.lt_or_ge j k with h | h
          · exact hq.out j h
          · obtain rfl : j = k := by omega
            exact HZ.out⟩
        case measure => simp [intOf]; omega
    · have HZ : Hid ((0 : Int) ∉ parts.map (kindT T)) := no_zero (n := n) ((List.length_map _).trans hl.out) (fun j hj => by have e := nth_map (f := kindT T) (xs := parts) (j := j) (by have := hl.out; omega); exact fun h => hq.out j (by omega) (e.symm.trans h))
      clear hq
      go_wp2_with (at_builtin; refine wp_app_int (xs := []) (ys := parts) rfl _ _ rfl rfl rfl (OwnI.empty (B := w.heap.size) (Nat.le_refl _) sp_int) ?_ hl.out ?_ ?_ ?_)
      · exact (HR.out.below (below_new _)).cell
      · omega
      intro v' w3 hv3 hg3 hb3
      try simp only [List.nil_append] at hv3
      obtain ⟨A3, c3, rfl⟩ := hv3.slice
      rw [hl.out] at hv3 ⊢
      have HO := Lib.hid hv3
      have HB3 := Lib.hid (((Below.refl _ _).alloc (Nat.le_refl w.heap.size) _).trans hb3)
      clear hv3 hg3 hb3
      have HB4 := Lib.hid (HB3.out.alloc HB3.out.size (.cells #[.int .i64 kind, .string ByteArray.empty, .slice A3 n c3] 71))
      have HO4 := Lib.hid (HO.out.below (below_new (.cells #[.int .i64 kind, .string ByteArray.empty, .slice A3 n c3] 71)))
      have HF : Hid ((parts.map (kindT T)).length = n) := (List.length_map _).trans hl.out
      by_cases k3 : kind = 3
      · subst k3
        by_cases hc : n ≤ 16
        · have HQ : Hid (formedT 3 (parts.map (kindT T)) = true) := by show _ = _; simp [formedT, HF.out]; omega
          have hci : (n : Int) ≤ 16 := by omega
          have HE := Lib.hid (own_len (T := T) (parts := parts) (kind := 3) (by decide))
          go_wp2_with fail
          refine (add02_any 3 ByteArray.empty A3 n c3 parts _ (HT.out.below HB4.out) (by have := good_make HT.out.1 HZ.out HQ.out; rwa [HE.out] at this) HO4.out.rds).mono ?_
          rintro e w5 h3
          have h3' := Lib.hid h3
          obtain ⟨rfl, -, -⟩ := h3
          go_wp2_with fail
          go_ret
          exact rmake_done HZ.out HQ.out HE.out HB4.out h3'.out
        · have HQ : Hid (formedT 3 (parts.map (kindT T)) = false) := by show _ = _; simp [formedT, HF.out]; omega
          have hci : ¬ (n : Int) ≤ 16 := by omega
          go_wp2_with fail
          go_ret
          rw [make_no2 HQ.out]
          exact rpost_same HT.out HB4.out
      by_cases k4 : kind = 4
      · subst k4
        by_cases hc : n = 1
        · have HQ : Hid (formedT 4 (parts.map (kindT T)) = true) := by show _ = _; simp [formedT, HF.out]; omega
          subst hc
          have HE := Lib.hid (own_len (T := T) (parts := parts) (kind := 4) (by decide))
          go_wp2_with fail
          refine (add02_any 4 ByteArray.empty A3 1 c3 parts _ (HT.out.below HB4.out) (by have := good_make HT.out.1 HZ.out HQ.out; rwa [HE.out] at this) HO4.out.rds).mono ?_
          rintro e w5 h3
          have h3' := Lib.hid h3
          obtain ⟨rfl, -, -⟩ := h3
          go_wp2_with fail
          go_ret
          exact rmake_done HZ.out HQ.out HE.out HB4.out h3'.out
        · have HQ : Hid (formedT 4 (parts.map (kindT T)) = false) := by show _ = _; simp [formedT, HF.out]; omega
          have hci : ((n : Int) == 1) = false := by simp; omega
          have hcn : ¬ (n : Int) = 1 := by omega
          go_wp2_with fail
          go_ret
          rw [make_no2 HQ.out]
          exact rpost_same HT.out HB4.out
      by_cases k5 : kind = 5
      · subst k5
        by_cases hc : n = 2
        · have HQ : Hid (formedT 5 (parts.map (kindT T)) = true) := by show _ = _; simp [formedT, HF.out]; omega
          subst hc
          have HE := Lib.hid (own_len (T := T) (parts := parts) (kind := 5) (by decide))
          go_wp2_with fail
          refine (add02_any 5 ByteArray.empty A3 2 c3 parts _ (HT.out.below HB4.out) (by have := good_make HT.out.1 HZ.out HQ.out; rwa [HE.out] at this) HO4.out.rds).mono ?_
          rintro e w5 h3
          have h3' := Lib.hid h3
          obtain ⟨rfl, -, -⟩ := h3
          go_wp2_with fail
          go_ret
          exact rmake_done HZ.out HQ.out HE.out HB4.out h3'.out
        · have HQ : Hid (formedT 5 (parts.map (kindT T)) = false) := by show _ = _; simp [formedT, HF.out]; omega
          have hci : ((n : Int) == 2) = false := by simp; omega
          have hcn : ¬ (n : Int) = 2 := by omega
          go_wp2_with fail
          go_ret
          rw [make_no2 HQ.out]
          exact rpost_same HT.out HB4.out
      by_cases k6 : kind = 6
      · subst k6
        by_cases hc : n = 3
        · subst hc
          obtain ⟨b, o, rfl, hcx⟩ := RdI.at_ (HR.out.below HB3.out).cell (by have := hl.out; omega)
          have x1 := hcx 1 (by have := hl.out; omega)
          skip
          have hbl := World.block_lt_of_cell? _ _ x1
          simp only at hbl
          clear hcx
          have hki := HX.out.nth 1
          have hn1 : Hid (nth (parts.map (kindT T)) 1 = kindT T (nth parts 1)) := nth_map (by have := hl.out; omega)
          go_wp2_with fail
          refine (kind02_any (nth parts 1) _ (HT.out.below HB4.out) hki.1 hki.2).mono ?_
          rintro e w5 ⟨rfl, rfl⟩
          by_cases hk1 : kindT T (nth parts 1) = 1
          · have HQ : Hid (formedT 6 (parts.map (kindT T)) = true) := by show _ = _; simp [formedT, HF.out, hn1.out, hk1]
            rw [hk1]
            clear hk1
            have HE := Lib.hid (own_len (T := T) (parts := parts) (kind := 6) (by decide))
            go_wp2_with fail
            refine (add02_any 6 ByteArray.empty A3 3 c3 parts _ (HT.out.below HB4.out) (by have := good_make HT.out.1 HZ.out HQ.out; rwa [HE.out] at this) HO4.out.rds).mono ?_
            rintro e w5 h3
            have h3' := Lib.hid h3
            obtain ⟨rfl, -, -⟩ := h3
            go_wp2_with fail
            go_ret
            exact rmake_done HZ.out HQ.out HE.out HB4.out h3'.out
          · have HQ : Hid (formedT 6 (parts.map (kindT T)) = false) := by show _ = _; simp [formedT, HF.out, hn1.out, hk1]
            have hk2 : (kindT T (nth parts 1) == 1) = false := by simp [hk1]
            have HK1 := Lib.hid hk1
            clear hk1
            go_wp2_with fail
            go_ret
            rw [make_no2 HQ.out]
            exact rpost_same HT.out HB4.out
        · have HQ : Hid (formedT 6 (parts.map (kindT T)) = false) := by show _ = _; simp [formedT, HF.out]; omega
          have hci : ((n : Int) == 3) = false := by simp; omega
          have hcn : ¬ (n : Int) = 3 := by omega
          go_wp2_with fail
          go_ret
          rw [make_no2 HQ.out]
          exact rpost_same HT.out HB4.out
      by_cases k10 : kind = 10
      · subst k10
        by_cases hc : n = 3
        · subst hc
          obtain ⟨b, o, rfl, hcx⟩ := RdI.at_ (HR.out.below HB3.out).cell (by have := hl.out; omega)
          have x1 := hcx 1 (by have := hl.out; omega)
          skip
          have hbl := World.block_lt_of_cell? _ _ x1
          simp only at hbl
          clear hcx
          have hki := HX.out.nth 1
          have hn1 : Hid (nth (parts.map (kindT T)) 1 = kindT T (nth parts 1)) := nth_map (by have := hl.out; omega)
          go_wp2_with fail
          refine (kind02_any (nth parts 1) _ (HT.out.below HB4.out) hki.1 hki.2).mono ?_
          rintro e w5 ⟨rfl, rfl⟩
          by_cases hk1 : kindT T (nth parts 1) = 1
          · have HQ : Hid (formedT 10 (parts.map (kindT T)) = true) := by show _ = _; simp [formedT, HF.out, hn1.out, hk1]
            rw [hk1]
            clear hk1
            have HE := Lib.hid (own_len (T := T) (parts := parts) (kind := 10) (by decide))
            go_wp2_with fail
            refine (add02_any 10 ByteArray.empty A3 3 c3 parts _ (HT.out.below HB4.out) (by have := good_make HT.out.1 HZ.out HQ.out; rwa [HE.out] at this) HO4.out.rds).mono ?_
            rintro e w5 h3
            have h3' := Lib.hid h3
            obtain ⟨rfl, -, -⟩ := h3
            go_wp2_with fail
            go_ret
            exact rmake_done HZ.out HQ.out HE.out HB4.out h3'.out
          · have HQ : Hid (formedT 10 (parts.map (kindT T)) = false) := by show _ = _; simp [formedT, HF.out, hn1.out, hk1]
            have hk2 : (kindT T (nth parts 1) == 1) = false := by simp [hk1]
            have HK1 := Lib.hid hk1
            clear hk1
            go_wp2_with fail
            go_ret
            rw [make_no2 HQ.out]
            exact rpost_same HT.out HB4.out
        · have HQ : Hid (formedT 10 (parts.map (kindT T)) = false) := by show _ = _; simp [formedT, HF.out]; omega
          have hci : ((n : Int) == 3) = false := by simp; omega
          have hcn : ¬ (n : Int) = 3 := by omega
          go_wp2_with fail
          go_ret
          rw [make_no2 HQ.out]
          exact rpost_same HT.out HB4.out
      by_cases k7 : kind = 7
      · subst k7
        by_cases hc : n = 1
        · subst hc
          obtain ⟨b, o, rfl, hcx⟩ := RdI.at_ (HR.out.below HB3.out).cell (by have := hl.out; omega)
          have x1 := hcx 0 (by have := hl.out; omega)
          simp only [Nat.add_zero] at x1
          have hbl := World.block_lt_of_cell? _ _ x1
          simp only at hbl
          clear hcx
          have hki := HX.out.nth 0
          have hn1 : Hid (nth (parts.map (kindT T)) 0 = kindT T (nth parts 0)) := nth_map (by have := hl.out; omega)
          go_wp2_with fail
          refine (kind02_any (nth parts 0) _ (HT.out.below HB4.out) hki.1 hki.2).mono ?_
          rintro e w5 ⟨rfl, rfl⟩
          by_cases hk1 : kindT T (nth parts 0) = 2
          · have HQ : Hid (formedT 7 (parts.map (kindT T)) = true) := by show _ = _; simp [formedT, HF.out, hn1.out, hk1]
            rw [hk1]
            clear hk1
            have HE := Lib.hid (own_len (T := T) (parts := parts) (kind := 7) (by decide))
            go_wp2_with fail
            refine (add02_any 7 ByteArray.empty A3 1 c3 parts _ (HT.out.below HB4.out) (by have := good_make HT.out.1 HZ.out HQ.out; rwa [HE.out] at this) HO4.out.rds).mono ?_
            rintro e w5 h3
            have h3' := Lib.hid h3
            obtain ⟨rfl, -, -⟩ := h3
            go_wp2_with fail
            go_ret
            exact rmake_done HZ.out HQ.out HE.out HB4.out h3'.out
          · have HQ : Hid (formedT 7 (parts.map (kindT T)) = false) := by show _ = _; simp [formedT, HF.out, hn1.out, hk1]
            have hk2 : (kindT T (nth parts 0) == 2) = false := by simp [hk1]
            have HK1 := Lib.hid hk1
            clear hk1
            go_wp2_with fail
            go_ret
            rw [make_no2 HQ.out]
            exact rpost_same HT.out HB4.out
        · have HQ : Hid (formedT 7 (parts.map (kindT T)) = false) := by show _ = _; simp [formedT, HF.out]; omega
          have hci : ((n : Int) == 1) = false := by simp; omega
          have hcn : ¬ (n : Int) = 1 := by omega
          go_wp2_with fail
          go_ret
          rw [make_no2 HQ.out]
          exact rpost_same HT.out HB4.out
      by_cases k9 : kind = 9
      · subst k9
        by_cases hc : n = 2
        · subst hc
          obtain ⟨b, o, rfl, hcx⟩ := RdI.at_ (HR.out.below HB3.out).cell (by have := hl.out; omega)
          have x1 := hcx 0 (by have := hl.out; omega)
          simp only [Nat.add_zero] at x1
          have hbl := World.block_lt_of_cell? _ _ x1
          simp only at hbl
          clear hcx
          have hki := HX.out.nth 0
          have hn1 : Hid (nth (parts.map (kindT T)) 0 = kindT T (nth parts 0)) := nth_map (by have := hl.out; omega)
          go_wp2_with fail
          refine (kind02_any (nth parts 0) _ (HT.out.below HB4.out) hki.1 hki.2).mono ?_
          rintro e w5 ⟨rfl, rfl⟩
          by_cases hk1 : kindT T (nth parts 0) = 2
          · have HQ : Hid (formedT 9 (parts.map (kindT T)) = true) := by show _ = _; simp [formedT, HF.out, hn1.out, hk1]
            rw [hk1]
            clear hk1
            have HE := Lib.hid (own_len (T := T) (parts := parts) (kind := 9) (by decide))
            go_wp2_with fail
            refine (add02_any 9 ByteArray.empty A3 2 c3 parts _ (HT.out.below HB4.out) (by have := good_make HT.out.1 HZ.out HQ.out; rwa [HE.out] at this) HO4.out.rds).mono ?_
            rintro e w5 h3
            have h3' := Lib.hid h3
            obtain ⟨rfl, -, -⟩ := h3
            go_wp2_with fail
            go_ret
            exact rmake_done HZ.out HQ.out HE.out HB4.out h3'.out
          · have HQ : Hid (formedT 9 (parts.map (kindT T)) = false) := by show _ = _; simp [formedT, HF.out, hn1.out, hk1]
            have hk2 : (kindT T (nth parts 0) == 2) = false := by simp [hk1]
            have HK1 := Lib.hid hk1
            clear hk1
            go_wp2_with fail
            go_ret
            rw [make_no2 HQ.out]
            exact rpost_same HT.out HB4.out
        · have HQ : Hid (formedT 9 (parts.map (kindT T)) = false) := by show _ = _; simp [formedT, HF.out]; omega
          have hci : ((n : Int) == 2) = false := by simp; omega
          have hcn : ¬ (n : Int) = 2 := by omega
          go_wp2_with fail
          go_ret
          rw [make_no2 HQ.out]
          exact rpost_same HT.out HB4.out
      by_cases k8 : kind = 8
      · subst k8
        by_cases hc : n = 2
        · subst hc
          obtain ⟨b, o, rfl, hcx⟩ := RdI.at_ (HR.out.below HB3.out).cell (by have := hl.out; omega)
          have x0 := hcx 0 (by have := hl.out; omega)
          simp only [Nat.add_zero] at x0
          have x1 := hcx 1 (by have := hl.out; omega)
          have hbl := World.block_lt_of_cell? _ _ x1
          simp only at hbl
          clear hcx
          have hki := HX.out.nth 0
          have hkj := HX.out.nth 1
          have hn0 : Hid (nth (parts.map (kindT T)) 0 = kindT T (nth parts 0)) := nth_map (by have := hl.out; omega)
          have hn1 : Hid (nth (parts.map (kindT T)) 1 = kindT T (nth parts 1)) := nth_map (by have := hl.out; omega)
          go_wp2_with fail
          refine (kind02_any (nth parts 0) _ (HT.out.below HB4.out) hki.1 hki.2).mono ?_
          rintro e w5 ⟨rfl, rfl⟩
          by_cases hk0 : kindT T (nth parts 0) = 2
          rotate_left
          · have HQ : Hid (formedT 8 (parts.map (kindT T)) = false) := by show _ = _; simp [formedT, HF.out, hn0.out, hk0]
            have hk2 : (kindT T (nth parts 0) == 2) = false := by simp [hk0]
            have HK0 := Lib.hid hk0
            clear hk0
            go_wp2_with fail
            go_ret
            rw [make_no2 HQ.out]
            exact rpost_same HT.out HB4.out
          have HK0 := Lib.hid hk0
          rw [hk0]
          clear hk0
          go_wp2_with fail
          refine (kind02_any (nth parts 1) _ (HT.out.below HB4.out) hkj.1 hkj.2).mono ?_
          rintro e w5 ⟨rfl, rfl⟩
          by_cases hk1 : kindT T (nth parts 1) = 7
          rotate_left
          · have HQ : Hid (formedT 8 (parts.map (kindT T)) = false) := by show _ = _; simp [formedT, HF.out, hn1.out, hk1]
            have hk2 : (kindT T (nth parts 1) == 7) = false := by simp [hk1]
            have HK1 := Lib.hid hk1
            clear hk1
            go_wp2_with fail
            go_ret
            rw [make_no2 HQ.out]
            exact rpost_same HT.out HB4.out
          have HQ : Hid (formedT 8 (parts.map (kindT T)) = true) := by show _ = _; simp [formedT, HF.out, hn0.out, hn1.out, HK0.out, hk1]
          obtain ⟨p, hp, p1, p2, p3, p4⟩ := public_of HT.out.1 hk1
          rw [hk1]
          obtain ⟨i, hi⟩ : ∃ i : Nat, nth parts 1 = (i : Int) + 1 := by
            have := getT_range hp
            exact ⟨(nth parts 1 - 1).toNat, by omega⟩
          have hiT : i < T.length := by have := getT_range hp; omega
          have hpi : T[i]? = some p := by rw [hi, getT_nat] at hp; exact hp
          have hown : Hid (ownT T 8 parts = sort2 (nth parts 0) (nth p.parts 0)) := by show _ = _; unfold ownT; rw [if_pos rfl, hp]
          obtain ⟨hw, hB, v, cs, g1, hon, hcs⟩ := HT.out.below HB3.out
          obtain ⟨AT, cAT, rfl⟩ := owned_slice hon
          have c0 : w3.cell? ⟨rb, 0, none⟩ = some (.slice AT T.length cAT) := by rw [cell_of_row w3 rb 0 _ _ _ g1]; rfl
          have hrb : rb < w3.heap.size := lt_of_get g1
          obtain ⟨gT, capT, e1, hfrm⟩ := hon.form (by omega)
          cases e1
          obtain ⟨AP, cP, hp1, hp2⟩ := hcs.parts i p hpi
          have k2 : w3.cell? ⟨gT, i * 3 + 2, none⟩ = some (.slice AP p.parts.length cP) := by rw [hon.cellAt _ (by omega)]; exact hp1
          rw [p1] at k2
          obtain ⟨bP, oP, rfl, hcP⟩ := RdI.at_ hp2.cell (by omega)
          have k3' := hcP 0 (by omega)
          simp only [Nat.add_zero] at k3'
          have hgT := World.block_lt_of_cell? _ _ k2
          have hbP := World.block_lt_of_cell? _ _ k3'
          simp only at hgT hbP
          rw [hi] at x1
          have hTl := hw.len
          have hp4 : 1 ≤ nth p.parts 0 ∧ nth p.parts 0 ≤ T.length := ⟨p3, p4⟩
          clear hw g1 hon hcs hfrm hp1 hp2 hcP hk1 hp hpi p1 p2 p3 p4 hB
          have hi0 : (0 : Int) ≤ (i : Int) := by omega
          have hiT' : (i : Int) < (T.length : Int) := by omega
          have hwi : IntKind.i64.wrap (i : Int) = i := IntWalk.i64_in _ (by omega)
          generalize nth p.parts 0 = z at *
          go_wp2_with fail
          go_quiet (fail)
          go_wp2_with fail
          refine wp_still_tail 10 (by kernel_rfl) (by kernel_rfl) ?_
          intro w5 hw5
          have x0' : w5.cell? ⟨b, o, none⟩ = some (.int .i64 (nth parts 0)) := by rw [hw5]; simp [go_sem, x0, hbl]
          simp only [List.take_succ_cons, List.take_zero, List.drop_succ_cons, List.drop_zero]
          repeat still_step
          refine wpStill_nil ?_
          generalize nth parts 0 = y at *
          go_wp2_with fail
          · refine (add02_any 8 ByteArray.empty (some ⟨w3.heap.size + 1, 0, none⟩) 2 2 (sort2 y z) _ (HT.out.below (((below_drewN HB4.out _).setCell (by have := HB3.out.size; simpa using this) _).alloc (by have := HB3.out.size; simp; omega) _)) (by have := good_make HT.out.1 HZ.out HQ.out; rwa [hown.out] at this) ?_).mono ?_
            · rw [show sort2 y z = [y, z] from if_neg (by omega)]
              exact rds_two (size_two _ _ _ _ _) y z B
            rintro e w6 h3
            have h3' := Lib.hid h3
            obtain ⟨rfl, -, -⟩ := h3
            go_wp2_with fail
            go_ret
            refine rmake_done HZ.out HQ.out hown.out ?_ h3'.out
            exact (((below_drewN HB4.out _).setCell (by have := HB3.out.size; simpa using this) _).alloc (by have := HB3.out.size; simp; omega) _)
          · refine (add02_any 8 ByteArray.empty (some ⟨w3.heap.size + 1, 0, none⟩) 2 2 (sort2 y z) _ (HT.out.below (((below_drewN HB4.out _).setCell (by have := HB3.out.size; simpa using this) _).alloc (by have := HB3.out.size; simp; omega) _)) (by have := good_make HT.out.1 HZ.out HQ.out; rwa [hown.out] at this) ?_).mono ?_
            · rw [show sort2 y z = [z, y] from if_pos (by omega)]
              exact rds_two (size_two _ _ _ _ _) z y B
            rintro e w6 h3
            have h3' := Lib.hid h3
            obtain ⟨rfl, -, -⟩ := h3
            go_wp2_with fail
            go_ret
            refine rmake_done HZ.out HQ.out hown.out ?_ h3'.out
            exact (((below_drewN HB4.out _).setCell (by have := HB3.out.size; simpa using this) _).alloc (by have := HB3.out.size; simp; omega) _)
          · refine (add02_any 8 ByteArray.empty (some ⟨w3.heap.size + 1, 0, none⟩) 2 2 (sort2 y z) _ (HT.out.below (((below_drewN HB4.out _).setCell (by have := HB3.out.size; simpa using this) _).alloc (by have := HB3.out.size; simp; omega) _)) (by have := good_make HT.out.1 HZ.out HQ.out; rwa [hown.out] at this) ?_).mono ?_
            · rw [show sort2 y z = [z, z] from (by rw [show y = z by omega]; simp [sort2])]
              exact rds_two (size_two _ _ _ _ _) z z B
            rintro e w6 h3
            have h3' := Lib.hid h3
            obtain ⟨rfl, -, -⟩ := h3
            go_wp2_with fail
            go_ret
            refine rmake_done HZ.out HQ.out hown.out ?_ h3'.out
            exact (((below_drewN HB4.out _).setCell (by have := HB3.out.size; simpa using this) _).alloc (by have := HB3.out.size; simp; omega) _)
        · have HQ : Hid (formedT 8 (parts.map (kindT T)) = false) := by show _ = _; simp [formedT, HF.out]; omega
          have hci : ((n : Int) == 2) = false := by simp; omega
          have hcn : ¬ (n : Int) = 2 := by omega
          go_wp2_with fail
          go_ret
          rw [make_no2 HQ.out]
          exact rpost_same HT.out HB4.out
      have HQ : Hid (formedT kind (parts.map (kindT T)) = false) := by show _ = _; unfold formedT; rw [if_neg k3, if_neg k4, if_neg k5, if_neg (by omega), if_neg k7, if_neg k8, if_neg k9]
      have b3 : (kind == 3) = false := by simp [k3]
      have b4 : (kind == 4) = false := by simp [k4]
      have b5 : (kind == 5) = false := by simp [k5]
      have b6 : (kind == 6) = false := by simp [k6]
      have b7 : (kind == 7) = false := by simp [k7]
      have b8 : (kind == 8) = false := by simp [k8]
      have b9 : (kind == 9) = false := by simp [k9]
      have b10 : (kind == 10) = false := by simp [k10]
      clear k3 k4 k5 k6 k7 k8 k9 k10
      go_wp2_with fail
      go_ret
      rw [make_no2 HQ.out]
      exact rpost_same HT.out HB4.out
end Go.Proofs.Ytmaedahleenlgaa
