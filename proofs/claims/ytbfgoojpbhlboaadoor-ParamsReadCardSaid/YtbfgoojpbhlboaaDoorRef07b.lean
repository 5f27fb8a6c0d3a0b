/- The reference of layer 7: Right. No condition. -/
import Derived.Test.YtbfgoojpbhlboaaDoorRef07
import Derived.Test.YtbfgoojpbhlboaaDoorParRight
set_option linter.unusedVariables false
set_option linter.unusedSimpArgs false
namespace Go.Proofs.YtbfgoojpbhlboaaDoor
open Go Go.RowKit

set_option maxHeartbeats 6400000 in
set_option maxRecDepth 100000 in
theorem rright_any {B : Nat} (p : Par) (s : ParS) (w : World) (h : ParAt B w p s) (hlen : p.vs.length ≤ 1000) :
    Calls Tryd.prog 15 #[.agg (parCs p s)] w (RightPost p w) := by
  obtain ⟨D, hD⟩ : ∃ D, D = decide (rightP p) := ⟨_, rfl⟩
  have HD0 := Lib.hid hD
  unfold RightPost
  rw [← hD]
  clear hD
  obtain ⟨W, hW⟩ : ∃ W, W = w.alloc (.cells (parCs p s) 25) := ⟨_, rfl⟩
  have hbw : Below w.heap.size w W := by rw [hW]; exact below_new _
  have HBW := Lib.hid hbw
  have PD : Hid (ParD W w.heap.size p s) := by rw [hW]; exact heap_alloc_new w _
  have HV := Lib.hid (h.vs.below hbw)
  clear h hbw
  unfold parCs at hW ⊢
  go_enter Tryd.func15, Tryd.ntmps15
  subst hW
  by_cases d1 : sizeV p.idle = 0
  · have HE : Hid (D = false) := by rw [HD0.out]; exact decide_eq_false fun k => k.1.1 d1
    have e1 : (((sizeV p.idle : Nat) : Int) == 0) = true := by simp [d1]
    clear d1
    go_wp2_with (go_at_call 38; refine (rsize_any _ _).mono ?_; rintro e w' ⟨rfl, hw⟩; subst hw)
    go_ret
    rw [HE.out]
    exact ⟨rfl, HBW.out⟩
  have e1 : (((sizeV p.idle : Nat) : Int) == 0) = false := by simp [d1]
  have D1 := Lib.hid d1; clear d1
  by_cases d2 : sizeV p.data = 0
  · have HE : Hid (D = false) := by rw [HD0.out]; exact decide_eq_false fun k => k.1.2.1 d2
    have e2 : (((sizeV p.data : Nat) : Int) == 0) = true := by simp [d2]
    clear d2
    go_wp2_with (go_at_call 38; refine (rsize_any _ _).mono ?_; rintro e w' ⟨rfl, hw⟩; subst hw)
    go_ret
    rw [HE.out]
    exact ⟨rfl, HBW.out⟩
  have e2 : (((sizeV p.data : Nat) : Int) == 0) = false := by simp [d2]
  have D2 := Lib.hid d2; clear d2
  by_cases d3 : 1 ≤ p.chosen
  rotate_left
  · have HE : Hid (D = false) := by rw [HD0.out]; exact decide_eq_false fun k => d3 k.1.2.2.1
    go_wp2_with (go_at_call 38; refine (rsize_any _ _).mono ?_; rintro e w' ⟨rfl, hw⟩; subst hw)
    go_ret
    rw [HE.out]
    exact ⟨rfl, HBW.out⟩
  by_cases d4 : p.chosen ≤ 4294967295
  rotate_left
  · have HE : Hid (D = false) := by rw [HD0.out]; exact decide_eq_false fun k => d4 (by have := k.1.2.2.2; omega)
    go_wp2_with (go_at_call 38; refine (rsize_any _ _).mono ?_; rintro e w' ⟨rfl, hw⟩; subst hw)
    go_ret
    rw [HE.out]
    exact ⟨rfl, HBW.out⟩
  have D3 : Hid (verOk p.chosen) := ⟨d3, by omega⟩
  by_cases d5 : p.vs.length ≤ 16
  rotate_left
  · have HE : Hid (D = false) := by rw [HD0.out]; exact decide_eq_false fun k => d5 k.2.2.1
    go_wp2_with (go_at_call 38; refine (rsize_any _ _).mono ?_; rintro e w' ⟨rfl, hw⟩; subst hw)
    go_ret
    rw [HE.out]
    exact ⟨rfl, HBW.out⟩
  have D5 := Lib.hid d5
  go_wp2_with (go_at_call 38; refine (rsize_any _ _).mono ?_; rintro e w' ⟨rfl, hw⟩; subst hw)
  clear e1 e2 d3 d4
  obtain ⟨W, hW⟩ : ∃ W, W = w.alloc (.cells #[.int .i64 p.idle, .int .i64 p.data, .bool p.hg, .bool p.ho, .bool p.hr, .slice s.gA p.goal.length s.gc, .slice s.oA p.own.length s.oc, .slice s.rA p.retry.length s.rc, .int .i64 p.chosen, .slice s.vA p.vs.length s.vc] 25) := ⟨_, rfl⟩
  have HBW' : Hid (Below w.heap.size w W) := by rw [hW]; exact HBW.out
  have PD' : Hid (ParD W w.heap.size p s) := by rw [hW]; exact PD.out
  have HV' : Hid (Rds B W .i64 s.vA p.vs.length s.vc p.vs) := by rw [hW]; exact HV.out
  rw [← hW]
  clear hW HBW PD HV
  have b9 : W.cell? ⟨w.heap.size, 9, none⟩ = some (.slice s.vA p.vs.length s.vc) := PD'.out.cell 9
  obtain ⟨n, hn⟩ : ∃ n, n = p.vs.length := ⟨_, rfl⟩
  have HN := Lib.hid hn
  rw [← hn] at b9 d5 ⊢
  clear hn hlen
  go_loopw [3] (fun i wr => ∃ k : Nat, k ≤ n ∧ i = .int .i64 k ∧ Hid (∀ i, i < k → verOk (nth p.vs i) ∧ ∀ j, j < i → nth p.vs j ≠ nth p.vs i) ∧ ∃ q, wr = W.drewN q) (fun i _ => n - (intOf i).toNat)
  case atStart => exact ⟨0, Nat.zero_le _, rfl, fun i hi => by omega, 0, rfl⟩
  case round =>
    obtain ⟨k, hk, rfl, hq, q, rfl⟩ := hrel
    by_cases hlt : k < n
    · obtain ⟨b, o, hA, hcx⟩ := RdI.at_ HV'.out.cell (by have := HN.out; omega)
      have hcx' : Hid (∀ j, j < n → W.cell? ⟨b, o + j, none⟩ = some (.int .i64 (nth p.vs j))) := fun j hj => hcx j (by have := HN.out; omega)
      have g1 := hcx'.out k hlt
      rw [hA] at b9
      have hk1 : (k : Int) < (n : Int) := by omega
      have hk0 : (0 : Int) ≤ (k : Int) := by omega
      clear hcx hA
      by_cases m1 : 1 ≤ nth p.vs k
      rotate_left
      · have HE : Hid (D = false) := by
          show _ = _
          rw [HD0.out]; exact decide_eq_false fun x => m1 (x.2.2.2.1 _ (nth_mem (by have := HN.out; omega))).1
        go_wp2_with fail
        go_ret
        rw [HE.out]
        exact ⟨rfl, below_drewN HBW'.out _⟩
      by_cases m2 : nth p.vs k ≤ 4294967295
      rotate_left
      · have HE : Hid (D = false) := by
          show _ = _
          rw [HD0.out]; exact decide_eq_false fun x => m2 (by have := (x.2.2.2.1 _ (nth_mem (j := k) (by have := HN.out; omega))).2; omega)
        go_wp2_with fail
        go_ret
        rw [HE.out]
        exact ⟨rfl, below_drewN HBW'.out _⟩
      have M1 : Hid (verOk (nth p.vs k)) := ⟨m1, by omega⟩
      go_wp2_with fail
      clear m1 m2
      go_loopw [4] (fun i wr => ∃ m : Nat, m ≤ k ∧ i = .int .i64 m ∧ Hid (∀ j, j < m → nth p.vs j ≠ nth p.vs k) ∧ ∃ q, wr = W.drewN q) (fun i _ => k - (intOf i).toNat)
      case atStart => exact ⟨0, Nat.zero_le _, rfl, fun i hi => by omega, q, rfl⟩
      case round =>
        obtain ⟨m, hm, rfl, hq2, q2, rfl⟩ := hrel
        by_cases hlt2 : m < k
        · have g2 := hcx'.out m (by omega)
          have hm1 : (m : Int) < (n : Int) := by omega
          have hm0 : (0 : Int) ≤ (m : Int) := by omega
          have hmk : (m : Int) < (k : Int) := by omega
          by_cases hz : nth p.vs m = nth p.vs k
          · have hz' : (nth p.vs m == nth p.vs k) = true := by simp [hz]
            have HE : Hid (D = false) := by
              show _ = _
              rw [HD0.out]
              refine decide_eq_false fun x => ?_
              have := (nodup_nth.2 ⟨x.2.2.2.1, x.2.2.2.2⟩) k (by have := HN.out; omega)
              exact this.2 m (by omega) hz
            clear hz
            go_wp2_with fail
            go_quiet (fail)
            go_wp2_with fail
            go_ret
            rw [HE.out]
            exact ⟨rfl, below_drewN (below_drewN HBW'.out _) _⟩
          · have hz' : (nth p.vs m == nth p.vs k) = false := by simp [hz]
            have HZ := Lib.hid hz; clear hz
            go_wp2_with fail
            go_quiet (fail)
            go_wp2_with fail
            go_roundw
            case rel => exact ⟨m + 1, by omega, by go_num, fun j hj => by
              rcases Nat.lt_or_ge j m with h | h
              · exact hq2.out j h
              · obtain rfl : j = m := by omega
                exact HZ.out, _, rfl⟩
            case measure => simp [intOf]; omega
        · obtain rfl : m = k := by omega
          go_wp2_with fail
          go_roundw
          case rel => exact ⟨m + 1, by omega, by go_num, fun i hi => by
            rcases Nat.lt_or_ge i m with h | h
            · exact hq.out i h
            · obtain rfl : i = m := by omega
              exact ⟨M1.out, fun j hj => hq2.out j hj⟩, _, rfl⟩
          case measure => simp [intOf]; omega
    · obtain rfl : k = n := by omega
      have HM : Hid ((∀ v ∈ p.vs, verOk v) ∧ p.vs.Nodup) := nodup_nth.1 fun i hi => hq.out i (by have := HN.out; omega)
      have hmm : Hid ((nameOk p.hg p.goal ∧ nameOk p.ho p.own ∧ nameOk p.hr p.retry) ↔ rightP p) := by
        show _ ↔ _
        exact ⟨fun x => ⟨⟨D1.out, D2.out, D3.out⟩, x, D5.out, HM.out.1, HM.out.2⟩, fun x => x.2.1⟩
      have n2 : W.cell? ⟨w.heap.size, 2, none⟩ = some (.bool p.hg) := PD'.out.cell 2
      have n5 : W.cell? ⟨w.heap.size, 5, none⟩ = some (.slice s.gA p.goal.length s.gc) := PD'.out.cell 5
      have n3 : W.cell? ⟨w.heap.size, 3, none⟩ = some (.bool p.ho) := PD'.out.cell 3
      have n6 : W.cell? ⟨w.heap.size, 6, none⟩ = some (.slice s.oA p.own.length s.oc) := PD'.out.cell 6
      have n4 : W.cell? ⟨w.heap.size, 4, none⟩ = some (.bool p.hr) := PD'.out.cell 4
      have n7 : W.cell? ⟨w.heap.size, 7, none⟩ = some (.slice s.rA p.retry.length s.rc) := PD'.out.cell 7
      by_cases f1 : nameOk p.hg p.goal
      rotate_left
      · have HE : Hid (D = false) := by show _ = _; rw [HD0.out]; exact decide_eq_false fun x => f1 (hmm.out.2 x).1
        have q4 : namedN p.hg p.goal.length = false := by rw [namedN_eq]; exact decide_eq_false f1
        have Q4 := Lib.hid q4
        clear f1 q4
        go_wp2_with (go_at_call 39; refine (rname_any _ _ _ _ _).mono ?_; rintro e w' ⟨rfl, hw⟩; subst hw; rw [Q4.out])
        go_ret
        rw [HE.out]
        exact ⟨rfl, below_drewN HBW'.out _⟩
      have q4 : namedN p.hg p.goal.length = true := by rw [namedN_eq]; exact decide_eq_true f1
      have Q4 := Lib.hid q4
      have F1 := Lib.hid f1
      clear f1 q4
      by_cases f2 : nameOk p.ho p.own
      rotate_left
      · have HE : Hid (D = false) := by show _ = _; rw [HD0.out]; exact decide_eq_false fun x => f2 (hmm.out.2 x).2.1
        have q5 : namedN p.ho p.own.length = false := by rw [namedN_eq]; exact decide_eq_false f2
        have Q5 := Lib.hid q5
        clear f2 q5
        go_wp2_with (go_at_call 39; refine (rname_any _ _ _ _ _).mono ?_; rintro e w' ⟨rfl, hw⟩; subst hw; first | rw [Q4.out] | rw [Q5.out])
        go_ret
        rw [HE.out]
        exact ⟨rfl, below_drewN HBW'.out _⟩
      have q5 : namedN p.ho p.own.length = true := by rw [namedN_eq]; exact decide_eq_true f2
      have Q5 := Lib.hid q5
      have F2 := Lib.hid f2
      clear f2 q5
      obtain ⟨r, hr⟩ : ∃ r, r = namedN p.hr p.retry.length := ⟨_, rfl⟩
      have HE : Hid (D = r) := by
        show _ = _
        rw [HD0.out, hr, namedN_eq]
        by_cases f3 : nameOk p.hr p.retry
        · rw [decide_eq_true (hmm.out.1 ⟨F1.out, F2.out, f3⟩), decide_eq_true f3]
        · rw [decide_eq_false fun x => f3 (hmm.out.2 x).2.2, decide_eq_false f3]
      have HR := Lib.hid hr
      clear hr
      go_wp2_with (go_at_call 39; refine (rname_any _ _ _ _ _).mono ?_; rintro e w' ⟨rfl, hw⟩; subst hw; first | rw [Q4.out] | rw [Q5.out] | rw [← HR.out])
      go_ret
      rw [HE.out]
      exact ⟨rfl, below_drewN HBW'.out _⟩
end Go.Proofs.YtbfgoojpbhlboaaDoor
