/- Own texts, one behind the other. Each bears its own remark. -/
import Derived.Test.YtmaedahleenlgaaDo03
import Derived.Test.YtmaedahleenlgaaPureFind2
import Derived.Test.YtmaedahleenlgaaKnow6
import Derived.Test.YtmaedahleenlgaaPureAgain
/- The reference of layer 3: public, known, makes. No condition. -/
set_option linter.unusedVariables false
set_option linter.unusedSimpArgs false
namespace Go.Proofs.Ytmaedahleenlgaa
open Go Go.RowKit

theorem IsRef.node3 {B : Nat} {w : World} {rb : Nat} {T : List Nd} (h : IsRef B w rb T) {i : Nat} {n : Nd} (hi : T[i]? = some n) : ∃ g rc AP cP, w.cell? ⟨rb, 0, none⟩ = some (.slice (some ⟨g, 0, none⟩) T.length rc) ∧ T.length ≤ rc ∧ w.cell? ⟨g, i * 3, none⟩ = some (.int .i64 n.kind) ∧ w.cell? ⟨g, i * 3 + 1, none⟩ = some (.string n.text) ∧ w.cell? ⟨g, i * 3 + 2, none⟩ = some (.slice AP n.parts.length cP) ∧ Rds B w .i64 AP n.parts.length cP n.parts := by
  obtain ⟨hw, hB, v, cs, g1, hown, hcs⟩ := h
  have hl : i < T.length := (List.getElem?_eq_some_iff.1 hi).1
  obtain ⟨A, cA, rfl⟩ := owned_slice hown
  obtain ⟨g, cap, e1, hfrm⟩ := hown.form (by omega)
  cases e1
  obtain ⟨AP, cP, hp1, hp2⟩ := hcs.parts i n hi
  have hcap : T.length ≤ cA := by
    rcases hown.2 with ⟨q, _⟩ | ⟨g', cap', cur, e, _, _, q, _⟩
    · cases q
    · cases e; exact q
  exact ⟨g, cA, AP, cP, by rw [cell_of_row w rb 0 _ _ _ g1]; rfl, hcap, by rw [hown.cellAt _ (by omega)]; exact hcs.kind i n hi, by rw [hown.cellAt _ (by omega)]; exact hcs.text i n hi, by rw [hown.cellAt _ (by omega)]; exact hp1, hp2⟩
set_option maxHeartbeats 1600000 in
theorem rknown_any {B : Nat} (v : Value) (l : List Bool) (h : Int) (w : World) (hv : OwnB w B v l) (hh : h ≤ 9223372036854775807) : Calls Try.prog 44 #[v, .int .i64 h] w fun e w' => e = .returned (.bool (isB l h)) ∧ w' = w := by
  obtain ⟨A, c, rfl⟩ := hv.slice
  obtain ⟨r, hr⟩ : ∃ r, r = isB l h := ⟨_, rfl⟩
  rw [← hr]
  have HR := Lib.hid hr
  have HV := Lib.hid hv
  clear hr hv
  go_enter Try.func44, Try.ntmps44
  by_cases h0 : 0 < h
  rotate_left
  · have HN : Hid (r = false) := by show _ = _; rw [HR.out]; unfold isB; rw [decide_eq_false h0]; rfl
    go_wp2_with fail
    go_ret
    exact ⟨by rw [HN.out]; rfl, rfl⟩
  obtain ⟨k, rfl⟩ : ∃ k : Nat, h = k := ⟨h.toNat, by omega⟩
  by_cases h1 : k < l.length
  rotate_left
  · have HN : Hid (r = false) := by
      show _ = _
      rw [HR.out]
      unfold isB bget
      rw [List.getD_eq_getElem?_getD, Int.toNat_natCast, List.getElem?_eq_none (by omega)]
      simp
    have h1' : ¬ (k : Int) < (l.length : Int) := by omega
    go_wp2_with fail
    go_ret
    exact ⟨by rw [HN.out]; rfl, rfl⟩
  · obtain ⟨g, cap, e1, -, -, hc, hm, hcell, -, -⟩ := HV.out.form (by omega)
    simp only [Value.slice.injEq] at e1
    obtain ⟨rfl, -, rfl⟩ := e1
    have g1 := hcell k h1
    have HN : Hid (r = l.getD k false) := by
      show _ = _
      rw [HR.out]
      unfold isB bget
      rw [decide_eq_true h0, Int.toNat_natCast]
      rfl
    obtain ⟨b, hb⟩ : ∃ b, b = l.getD k false := ⟨_, rfl⟩
    rw [← hb] at g1
    have HB := Lib.hid hb
    have h1' : (k : Int) < (l.length : Int) := by omega
    clear hcell hb
    go_wp2_with fail
    go_ret
    exact ⟨by rw [HN.out, ← HB.out]; rfl, rfl⟩
theorem pubOf_none {T : List Nd} {y : Int} (h : ∀ (a : Nat) (m : Nd), a < T.length → T[a]? = some m → ¬ (m.kind = 7 ∧ nth m.parts 0 = y)) : pubOf T y = 0 := by
  unfold pubOf
  cases e : T.findIdx? (fun n => decide (n.kind = 7) && decide (nth n.parts 0 = y)) with
  | none => rfl
  | some i =>
    obtain ⟨hi, hp, -⟩ := List.findIdx?_eq_some_iff_getElem.1 e
    simp only [Bool.and_eq_true, decide_eq_true_eq] at hp
    exact absurd hp (h i _ hi (List.getElem?_eq_getElem hi))
theorem pubOf_at {T : List Nd} {y : Int} {i : Nat} {n : Nd} (hi : T[i]? = some n) (k : n.kind = 7) (hy : nth n.parts 0 = y) (h : ∀ (a : Nat) (m : Nd), a < i → T[a]? = some m → ¬ (m.kind = 7 ∧ nth m.parts 0 = y)) : pubOf T y = (i : Int) + 1 := by
  have hl : i < T.length := (List.getElem?_eq_some_iff.1 hi).1
  have e : T.findIdx? (fun n => decide (n.kind = 7) && decide (nth n.parts 0 = y)) = some i := by
    refine List.findIdx?_eq_some_iff_getElem.2 ⟨hl, ?_, fun j hj => ?_⟩
    · have : T[i] = n := by rw [List.getElem?_eq_getElem hl] at hi; exact Option.some.inj hi
      rw [this]; simp [k, hy]
    · have := h j _ hj (List.getElem?_eq_getElem (by omega))
      simpa using fun a b => this ⟨a, b⟩
  unfold pubOf
  rw [e]
theorem pubOf_le (T : List Nd) (y : Int) : pubOf T y ≤ T.length := by
  unfold pubOf
  cases e : T.findIdx? (fun n => decide (n.kind = 7) && decide (nth n.parts 0 = y)) with
  | none => simp
  | some i =>
    obtain ⟨hi, -, -⟩ := List.findIdx?_eq_some_iff_getElem.1 e
    show (i : Int) + 1 ≤ _
    omega
set_option maxHeartbeats 3200000 in
set_option maxRecDepth 100000 in
theorem rpublic_any {B rb : Nat} {T : List Nd} (y : Int) (w : World) (h : IsRef B w rb T) : Calls Try.prog 45 #[.pointer (some ⟨rb, 0, none⟩), .int .i64 y] w fun e w' => e = .returned (.int .i64 (pubOf T y)) ∧ w' = w := by
  have HR := Lib.hid h
  have HW := Lib.hid h.1
  have hT := h.1.len
  obtain ⟨rA, rc, r0⟩ := h.len3
  obtain ⟨r, hr⟩ : ∃ r, r = pubOf T y := ⟨_, rfl⟩
  rw [← hr]
  have HRR := Lib.hid hr
  clear h hr
  go_enter Try.func45, Try.ntmps45
  go_wp2_with fail
  go_loop [5] (fun v => ∃ k : Nat, k ≤ T.length ∧ v = .int .i64 k ∧ Hid (∀ (a : Nat) (m : Nd), a < k → T[a]? = some m → ¬ (m.kind = 7 ∧ nth m.parts 0 = y))) (fun v => T.length - (intOf v).toNat)
  case atStart => exact ⟨0, Nat.zero_le _, rfl, fun a m ha => by omega⟩
  case round =>
    obtain ⟨k, hk, rfl, HQ⟩ := hrel
    by_cases hlt : k < T.length
    · obtain ⟨m, hm⟩ : ∃ m, T[k]? = some m := ⟨_, List.getElem?_eq_getElem hlt⟩
      obtain ⟨g, cap, AP, cP, c0, hcap, k0, k1, k2, hp⟩ := HR.out.node3 hm
      rw [r0] at c0
      simp only [Option.some.injEq, Value.slice.injEq] at c0
      obtain ⟨rfl, -, rfl⟩ := c0
      have hi0 : (0 : Int) ≤ (k : Int) := by omega
      have hiT : (k : Int) < (T.length : Int) := by omega
      have hpc := hp.cap
      have hpm := hp.max
      by_cases k7 : m.kind = 7
      · have hb7 : (m.kind == 7) = true := by simp [k7]
        have hpl := ((HW.out.good k m hm).k7 k7).1
        obtain ⟨bP, oP, rfl, hcx⟩ := RdI.at_ hp.cell (by omega)
        have p0 := hcx 0 (by omega)
        rw [Nat.add_zero] at p0
        have hpl1 : (0 : Int) < (m.parts.length : Int) := by omega
        by_cases hz : nth m.parts 0 = y
        · have hze : (nth m.parts 0 == y) = true := by simp [hz]
          have HN : Hid (r = (k : Int) + 1) := HRR.out.trans (pubOf_at hm k7 hz HQ.out)
          clear hm hp hcx k7 hpl hz HQ HR
          go_wp2_with fail
          go_ret
          exact ⟨by rw [HN.out]; rfl, rfl⟩
        · have hze : (nth m.parts 0 == y) = false := by simp [hz]
          have HN : Hid (∀ (a : Nat) (m : Nd), a < k + 1 → T[a]? = some m → ¬ (m.kind = 7 ∧ nth m.parts 0 = y)) := fun a m' ha he => by
            rcases Nat.lt_or_ge a k with q | q
            · exact HQ.out a m' q he
            · obtain rfl : a = k := by omega
              rw [hm] at he; cases he
              exact fun q => hz q.2
          clear hm hp hcx k7 hpl hz HQ
          go_wp2_with fail
          go_round
          case rel => exact ⟨k + 1, by omega, by go_num, HN⟩
          case measure => simp [intOf]; omega
      · have hb7 : (m.kind == 7) = false := by simp [k7]
        have HN : Hid (∀ (a : Nat) (m : Nd), a < k + 1 → T[a]? = some m → ¬ (m.kind = 7 ∧ nth m.parts 0 = y)) := fun a m' ha he => by
          rcases Nat.lt_or_ge a k with q | q
          · exact HQ.out a m' q he
          · obtain rfl : a = k := by omega
            rw [hm] at he; cases he
            exact fun q => k7 q.1
        clear hm hp k7 HQ
        go_wp2_with fail
        go_round
        case rel => exact ⟨k + 1, by omega, by go_num, HN⟩
        case measure => simp [intOf]; omega
    · obtain rfl : k = T.length := by omega
      have HN : Hid (r = 0) := HRR.out.trans (pubOf_none HQ.out)
      go_wp2_with fail
      go_ret
      exact ⟨by rw [HN.out]; rfl, rfl⟩
end Go.Proofs.Ytmaedahleenlgaa

/- The reference of layer 3: makes. No condition. -/
set_option linter.unusedVariables false
set_option linter.unusedSimpArgs false
namespace Go.Proofs.Ytmaedahleenlgaa
open Go Go.RowKit

set_option maxHeartbeats 6400000 in
set_option maxRecDepth 100000 in
theorem rmakes_any {B Bf Bc rb : Nat} {T : List Nd} {F C : List Bool} {vf vc : Value} (h : Int) (nd : Nd) (w : World) (hr : IsRef B w rb T) (hg : getT T h = some nd) (hf : OwnB w Bf vf F) (hc : OwnB w Bc vc C) (hF : F.length = T.length + 1) (hC : C.length = T.length + 1) :
    Calls Try.prog 32 #[.pointer (some ⟨rb, 0, none⟩), .int .i64 h, vf, vc] w fun e w' => e = .returned (.bool (madeB F C (pubL T F) h nd)) ∧ Below w.heap.size w w' := by
  have hw := hr.1
  have hrg := getT_range hg
  have hT := hw.len
  have hgood := hw.get hg
  obtain ⟨i, rfl⟩ : ∃ i : Nat, h = (i : Int) + 1 := ⟨(h - 1).toNat, by omega⟩
  have hi : T[i]? = some nd := by rw [← getT_nat]; exact hg
  obtain ⟨g, cap, AP, cP, c0, hcap, k0, k1', k2', hp⟩ := hr.node3 hi
  have hi0 : (0 : Int) ≤ (i : Int) := by omega
  have hiT : (i : Int) < (T.length : Int) := by omega
  obtain ⟨W, hW⟩ : ∃ W, W = w.alloc (.cells #[.int .i64 nd.kind, .string nd.text, .slice AP nd.parts.length cP] 71) := ⟨_, rfl⟩
  have HB : Hid (Below w.heap.size w W) := by rw [hW]; exact below_new _
  have HR := Lib.hid (hp.below HB.out)
  have HRF := Lib.hid (hr.below HB.out)
  have HF := Lib.hid (hf.below HB.out)
  have HC := Lib.hid (hc.below HB.out)
  have hpc := hp.cap
  have hpm := hp.max
  obtain ⟨r, hrr⟩ : ∃ r, r = madeB F C (pubL T F) ((i : Int) + 1) nd := ⟨_, rfl⟩
  rw [← hrr]
  have HRR : Hid (r = if bget F ((i : Int) + 1) = true ∨ nd.kind = 1 then true else if nd.kind = 2 then false else if nd.kind = 8 then (bget C (nth nd.parts 0) && (bget C (nth nd.parts 1) || bget (pubL T F) (nth nd.parts 1))) || (bget C (nth nd.parts 1) && bget (pubL T F) (nth nd.parts 0)) else nd.parts.all (bget C)) := hrr
  obtain ⟨gF, capF, eF, hcF, qF⟩ := HF.out.at_ (p := (i : Int) + 1) (by omega) (by omega)
  rw [show ((i : Int) + 1).toNat = i + 1 from by omega] at qF
  obtain ⟨bF, hbF⟩ : ∃ b, b = bget F ((i : Int) + 1) := ⟨_, rfl⟩
  rw [← hbF] at qF
  have HBF := Lib.hid hbF
  have hFl : (i : Int) + 1 < (F.length : Int) := by omega
  have hF0 : (0 : Int) ≤ (i : Int) + 1 := by omega
  have hFt : ((i : Int) + 1).toNat = i + 1 := by omega
  have n0 : W.cell? ⟨w.heap.size, 0, none⟩ = some (.int .i64 nd.kind) := by rw [hW]; simp [go_sem]
  have n2 : W.cell? ⟨w.heap.size, 2, none⟩ = some (.slice AP nd.parts.length cP) := by rw [hW]; simp [go_sem]
  obtain ⟨kd, tx, ps⟩ := nd
  simp only at n0 n2 HRR HR hgood hW hpc k0 k1' k2' ⊢
  have HGd := Lib.hid hgood
  have HG := Lib.hid hg
  have HWF := Lib.hid hw
  subst eF
  clear hrr hr hf hc hbF hgood hi hp hg hw
  go_enter Try.func32, Try.ntmps32
  cases bF with
  | true =>
    have HN : Hid (r = true) := by show _ = _; rw [HRR.out, if_pos (.inl HBF.out.symm)]
    rw [hW] at qF n0
    go_wp2_with fail
    rw [← hW]
    go_ret
    exact ⟨by rw [HN.out]; rfl, HB.out⟩
  | false =>
    have nF : ¬ (bget F ((i : Int) + 1) = true) := by rw [← HBF.out]; decide
    rw [hW] at qF n0 n2
    by_cases k1 : kd = 1
    · have HN : Hid (r = true) := by show _ = _; rw [HRR.out, if_pos (.inr k1)]
      have hb : (kd == 1) = true := by simp [k1]
      clear k1 nF
      go_wp2_with fail
      rw [← hW]
      go_ret
      exact ⟨by rw [HN.out]; rfl, HB.out⟩
    have hb1 : (kd == 1) = false := by simp [k1]
    by_cases k2 : kd = 2
    · have HN : Hid (r = false) := by show _ = _; rw [HRR.out, if_neg (by rintro (q | q); exact nF q; exact k1 q), if_pos k2]
      have hb : (kd == 2) = true := by simp [k2]
      clear k1 k2 nF
      go_wp2_with fail
      rw [← hW]
      go_ret
      exact ⟨by rw [HN.out]; rfl, HB.out⟩
    have hb2 : (kd == 2) = false := by simp [k2]
    by_cases k8 : kd = 8
    · have hps := (HGd.out.k8 k8).1
      simp only at hps
      have r0 := nth_range HWF.out HG.out (i := 0) (by show 0 < ps.length; omega)
      have r1 := nth_range HWF.out HG.out (i := 1) (by show 1 < ps.length; omega)
      simp only at r0 r1
      have HN : Hid (r = ((bget C (nth ps 0) && (bget C (nth ps 1) || bget (pubL T F) (nth ps 1))) || (bget C (nth ps 1) && bget (pubL T F) (nth ps 0)))) := by
        show _ = _; rw [HRR.out, if_neg (by rintro (q | q); exact nF q; exact k1 q), if_neg k2, if_pos k8]
      obtain ⟨x, hx⟩ : ∃ n : Nat, nth ps 0 = n := ⟨(nth ps 0).toNat, by omega⟩
      obtain ⟨y, hy⟩ : ∃ n : Nat, nth ps 1 = n := ⟨(nth ps 1).toNat, by omega⟩
      rw [hx, hy] at HN
      rw [hx] at r0
      rw [hy] at r1
      obtain ⟨gC, capC, eC, hcC, qx⟩ := HC.out.at_ (p := (x : Int)) (by omega) (by omega)
      obtain ⟨gC', capC', eC', -, qy⟩ := HC.out.at_ (p := (y : Int)) (by omega) (by omega)
      rw [eC] at eC'
      simp only [Value.slice.injEq, Option.some.injEq, Addr.mk.injEq, and_true, true_and] at eC'
      obtain ⟨rfl, rfl⟩ := eC'
      rw [Int.toNat_natCast] at qx qy
      obtain ⟨cx, hcx⟩ : ∃ b, b = bget C (x : Int) := ⟨_, rfl⟩
      obtain ⟨cy, hcy⟩ : ∃ b, b = bget C (y : Int) := ⟨_, rfl⟩
      obtain ⟨px, hpx⟩ : ∃ b, b = bget (pubL T F) (x : Int) := ⟨_, rfl⟩
      obtain ⟨py, hpy⟩ : ∃ b, b = bget (pubL T F) (y : Int) := ⟨_, rfl⟩
      rw [← hcx] at qx HN
      rw [← hcy] at qy HN
      rw [← hpx, ← hpy] at HN
      have KX : Hid (isB F (pubOf T (x : Int)) = px) := by show _ = _; rw [hpx]; exact knownB_pub HWF.out F (by omega)
      have KY : Hid (isB F (pubOf T (y : Int)) = py) := by show _ = _; rw [hpy]; exact knownB_pub HWF.out F (by omega)
      obtain ⟨bA, oA, rfl, hcl⟩ := RdI.at_ HR.out.cell (by omega)
      have a0 := hcl 0 (by omega)
      have a1 := hcl 1 (by omega)
      rw [hx, Nat.add_zero] at a0
      rw [hy] at a1
      have xl : (x : Int) < (C.length : Int) := by omega
      have yl : (y : Int) < (C.length : Int) := by omega
      have pl : (0 : Int) < (ps.length : Int) := by omega
      have pl1 : (1 : Int) < (ps.length : Int) := by omega
      have hb8 : (kd == 8) = true := by simp [k8]
      have lx := pubOf_le T (x : Int)
      have ly := pubOf_le T (y : Int)
      subst eC
      clear k1 k2 k8 nF hps r0 r1 hx hy hcx hcy hpx hpy hcl
      go_wp2_with fail
      rw [← hW] at n2 ⊢
      clear hW qF n0 k0 k1' k2' c0
      go_region
      have HBd : Hid (Below w.heap.size w W.drew) := HB.out.drew
      have HRFd := Lib.hid (HRF.out.below ((Below.refl _ _).drew))
      have HFd := Lib.hid (HF.out.below ((Below.refl _ _).drew))
      have kx := rpublic_any (x : Int) W.drew HRFd.out
      have ky := rpublic_any (y : Int) W.drew HRFd.out
      obtain ⟨ux, hux⟩ : ∃ u, u = pubOf T (x : Int) := ⟨_, rfl⟩
      obtain ⟨uy, huy⟩ : ∃ u, u = pubOf T (y : Int) := ⟨_, rfl⟩
      rw [← hux] at KX kx lx
      rw [← huy] at KY ky ly
      have nx := rknown_any _ F ux W.drew HFd.out (by omega)
      have ny := rknown_any _ F uy W.drew HFd.out (by omega)
      rw [KX.out, hF] at nx
      rw [KY.out, hF] at ny
      have KXX := Lib.hid kx
      have KYY := Lib.hid ky
      have NX := Lib.hid nx
      have NY := Lib.hid ny
      clear kx ky nx ny hux huy lx ly
      cases cx <;> cases cy
      · go_wp2_with fail
        go_ret
        exact ⟨by rw [HN.out]; rfl, HBd.out⟩
      · go_wp2_with fail
        refine KXX.out.mono ?_
        rintro e w' ⟨rfl, rfl⟩
        go_wp2_with fail
        refine NX.out.mono ?_
        rintro e w' ⟨rfl, rfl⟩
        cases px
        all_goals
          go_wp2_with fail
          go_ret
          exact ⟨by rw [HN.out]; rfl, HBd.out⟩
      · go_wp2_with fail
        refine KYY.out.mono ?_
        rintro e w' ⟨rfl, rfl⟩
        go_wp2_with fail
        refine NY.out.mono ?_
        rintro e w' ⟨rfl, rfl⟩
        cases py
        all_goals
          go_wp2_with fail
          go_ret
          exact ⟨by rw [HN.out]; rfl, HBd.out⟩
      · go_wp2_with fail
        go_ret
        exact ⟨by rw [HN.out]; rfl, HBd.out⟩
    · have hb8 : (kd == 8) = false := by simp [k8]
      have HN : Hid (r = ps.all (bget C)) := by
        show _ = _; rw [HRR.out, if_neg (by rintro (q | q); exact nF q; exact k1 q), if_neg k2, if_neg k8]
      have hrng : ∀ i, i < ps.length → 1 ≤ nth ps i ∧ nth ps i ≤ T.length := fun j hj => nth_range HWF.out HG.out (n := ⟨kd, tx, ps⟩) (i := j) hj
      have HRng := Lib.hid hrng
      have HPm : Hid (ps.length ≤ 16) := HGd.out.many
      have hpm := HPm.out
      obtain ⟨A2, c2, e2⟩ := HC.out.slice
      subst e2
      have hpz : (0 : Int) ≤ (ps.length : Int) := by omega
      clear k1 k2 k8 nF hrng
      go_wp2_with fail
      rw [← hW] at n2 ⊢
      clear hW qF n0 k0 k1' k2' c0
      go_loop [12] (fun i => ∃ k : Nat, k ≤ ps.length ∧ i = .int .i64 k ∧ Hid (∀ j, j < k → bget C (nth ps j) = true)) (fun i => ps.length - (intOf i).toNat)
      case atStart => exact ⟨0, Nat.zero_le _, rfl, fun j hj => by omega⟩
      case round =>
        obtain ⟨k, hk, rfl, hq⟩ := hrel
        by_cases hlt : k < ps.length
        · obtain ⟨bA, oA, rfl, hcl⟩ := RdI.at_ HR.out.cell (by omega)
          have a0 := hcl k (by omega)
          have hr := HRng.out k hlt
          obtain ⟨x, hx⟩ : ∃ n : Nat, nth ps k = n := ⟨(nth ps k).toNat, by omega⟩
          rw [hx] at a0 hr
          obtain ⟨gC, capC, eC, hcC, qx⟩ := HC.out.at_ (p := (x : Int)) (by omega) (by omega)
          simp only [Value.slice.injEq] at eC
          obtain ⟨rfl, -, rfl⟩ := eC
          rw [Int.toNat_natCast] at qx
          obtain ⟨cx, hcx⟩ : ∃ b, b = bget C (x : Int) := ⟨_, rfl⟩
          rw [← hcx] at qx
          have xl : (x : Int) < (C.length : Int) := by omega
          have HX := Lib.hid hx
          have HCX := Lib.hid hcx
          clear hcl hx hcx
          cases cx with
          | true =>
            go_wp2_with fail
            go_round
            case rel => exact ⟨k + 1, by omega, by go_num, Lib.hid fun j hj => by
              rcases Nat.lt_or_ge j k with q | q
              · exact hq.out j q
              · obtain rfl : j = k := by omega
                rw [HX.out]; exact HCX.out.symm⟩
            case measure => simp [intOf]; omega
          | false =>
            have hf : ps.all (bget C) = false := by
              rw [List.all_eq_false]
              exact ⟨nth ps k, nth_mem hlt, by rw [HX.out, ← HCX.out]; decide⟩
            have HN2 : Hid (r = false) := HN.out.trans hf
            clear hf
            go_wp2_with fail
            go_ret
            exact ⟨by rw [HN2.out]; rfl, HB.out⟩
        · obtain rfl : k = ps.length := by omega
          have hf : ps.all (bget C) = true := by
            rw [List.all_eq_true]
            intro p hp
            obtain ⟨m, hm, rfl⟩ := mem_nth hp
            exact hq.out m hm
          have HN2 : Hid (r = true) := HN.out.trans hf
          clear hf
          go_wp2_with fail
          go_ret
          exact ⟨by rw [HN2.out]; rfl, HB.out⟩
end Go.Proofs.Ytmaedahleenlgaa
