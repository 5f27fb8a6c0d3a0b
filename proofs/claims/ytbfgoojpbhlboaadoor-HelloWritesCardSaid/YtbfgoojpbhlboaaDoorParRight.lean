/- Right (layer 7). No condition. -/
import Derived.Test.YtbfgoojpbhlboaaDoorParSort
import Derived.Test.YtbfgoojpbhlboaaDoorParAt
import Derived.Deep.RegionHeld3
set_option linter.unusedVariables false
set_option linter.unusedSimpArgs false
namespace Go.Proofs.YtbfgoojpbhlboaaDoor
open Go Go.RowKit

theorem noBad_perm {ys xs : List Int} (h : ys.Perm xs) : NoBad ys ↔ NoBad xs := ⟨fun k v hv => k v (h.mem_iff.2 hv), fun k v hv => k v (h.mem_iff.1 hv)⟩
set_option maxHeartbeats 3200000 in
set_option maxRecDepth 100000 in
theorem right_any {B : Nat} (p : Par) (s : ParS) (w : World) (h : ParAt B w p s) (hlen : p.vs.length ≤ 1000) :
    Calls Tryd.prog 16 #[.agg (parCs p s)] w (RightPost p w) := by
  obtain ⟨D, hD⟩ : ∃ D, D = decide (rightP p) := ⟨_, rfl⟩
  have HD0 := Lib.hid hD
  unfold RightPost
  rw [← hD]
  clear hD
  obtain ⟨W, hW⟩ : ∃ W, W = w.alloc (.cells (parCs p s) 27) := ⟨_, rfl⟩
  have hbw : Below w.heap.size w W := by rw [hW]; exact below_new _
  have HBW := Lib.hid hbw
  have HSW : Hid (W.heap.size = w.heap.size + 1) := by rw [hW]; show _ = _; simp
  have PB : Hid (ParB W w.heap.size p s) := by rw [hW]; exact heap_alloc_new w _
  have key := cloneI_any s.vA p.vs.length s.vc p.vs W (h.vs.below hbw) (by omega)
  clear h hbw
  unfold parCs at hW ⊢
  go_enter Tryd.func16, Tryd.ntmps16
  go_wp2_with fail
  rw [← hW]
  clear hW
  refine key.mono ?_
  clear key
  rintro e w1 ⟨v1, rfl, ho, hb1⟩
  obtain ⟨A1, c1, rfl⟩ := ho.slice
  have key := sort_any A1 p.vs.length c1 p.vs w1 ho (by omega)
  clear ho
  go_wp2_with fail
  refine key.mono ?_
  clear key
  rintro e w2 ⟨rfl, ys, hp, hsrt, ho2, hb2⟩
  have hbW2 : Below W.heap.size W w2 := hb1.trans hb2
  have PB2 : Hid (ParB w2 w.heap.size p s) := PB.out.later hbW2 (by have := HSW.out; omega)
  have HB2 : Hid (Below w.heap.size w w2) := HBW.out.trans (hbW2.mono HBW.out.size)
  have HY := Lib.hid hp
  have HS := Lib.hid hsrt
  have HO := Lib.hid ho2
  have HL : Hid (ys.length = p.vs.length) := hp.length_eq
  have HSz := Lib.hid hb1.size
  have HB1 : Hid (w1.heap.size ≤ w2.heap.size) := hb2.size
  clear hb1 hb2 hbW2 hp hsrt ho2 PB
  have p0 : w2.cell? ⟨w.heap.size, 0, none⟩ = some (.int .i64 p.idle) := PB2.out.cell 0
  have p1 : w2.cell? ⟨w.heap.size, 1, none⟩ = some (.int .i64 p.data) := PB2.out.cell 1
  have p8 : w2.cell? ⟨w.heap.size, 8, none⟩ = some (.int .i64 p.chosen) := PB2.out.cell 8
  by_cases d1 : sizeV p.idle = 0
  · have HE : Hid (D = false) := by rw [HD0.out]; exact decide_eq_false fun k => k.1.1 d1
    have e1 : (((sizeV p.idle : Nat) : Int) == 0) = true := by simp [d1]
    clear d1
    go_wp2_with (go_at_call 42; refine (vsize_any _ _).mono ?_; rintro e w' ⟨rfl, hw⟩; subst hw)
    go_ret
    rw [HE.out]
    exact ⟨rfl, HB2.out⟩
  have e1 : (((sizeV p.idle : Nat) : Int) == 0) = false := by simp [d1]
  have D1 := Lib.hid d1; clear d1
  by_cases d2 : sizeV p.data = 0
  · have HE : Hid (D = false) := by rw [HD0.out]; exact decide_eq_false fun k => k.1.2.1 d2
    have e2 : (((sizeV p.data : Nat) : Int) == 0) = true := by simp [d2]
    clear d2
    go_wp2_with (go_at_call 42; refine (vsize_any _ _).mono ?_; rintro e w' ⟨rfl, hw⟩; subst hw)
    go_ret
    rw [HE.out]
    exact ⟨rfl, HB2.out⟩
  have e2 : (((sizeV p.data : Nat) : Int) == 0) = false := by simp [d2]
  have D2 := Lib.hid d2; clear d2
  by_cases d3 : verOk p.chosen
  rotate_left
  · have HE : Hid (D = false) := by rw [HD0.out]; exact decide_eq_false fun k => d3 k.1.2.2
    have e3 : decide (verOk p.chosen) = false := decide_eq_false d3
    have E3 := Lib.hid e3
    clear d3 e3
    go_wp2_with (first | (go_at_call 42; refine (vsize_any _ _).mono ?_; rintro e w' ⟨rfl, hw⟩; subst hw) | (go_at_call 43; refine (version_any _ _).mono ?_; rintro e w' ⟨rfl, hw⟩; have hw := hw.symm; subst hw; rw [E3.out]))
    go_ret
    rw [HE.out]
    exact ⟨rfl, HB2.out⟩
  have e3 : decide (verOk p.chosen) = true := decide_eq_true d3
  have E3 := Lib.hid e3
  have D3 := Lib.hid d3; clear d3 e3
  obtain ⟨⟨n2, n5⟩, ⟨n3, n6⟩, ⟨n4, n7⟩⟩ := PB2.out.names
  by_cases d4 : nameOk p.hg p.goal
  rotate_left
  · have HE : Hid (D = false) := by rw [HD0.out]; exact decide_eq_false fun k => d4 k.2.1.1
    have e4 : namedN p.hg p.goal.length = false := by rw [namedN_eq]; exact decide_eq_false d4
    have E4 := Lib.hid e4
    clear d4 e4
    go_wp2_with (first | (go_at_call 42; refine (vsize_any _ _).mono ?_; rintro e w' ⟨rfl, hw⟩; subst hw) | (go_at_call 43; refine (version_any _ _).mono ?_; rintro e w' ⟨rfl, hw⟩; have hw := hw.symm; subst hw; rw [E3.out]) | (go_at_call 44; refine (named_any _ _ _ _ _).mono ?_; rintro e w' ⟨rfl, hw⟩; have hw := hw.symm; subst hw; first | rw [E4.out]))
    go_ret
    rw [HE.out]
    exact ⟨rfl, HB2.out⟩
  have e4 : namedN p.hg p.goal.length = true := by rw [namedN_eq]; exact decide_eq_true d4
  have E4 := Lib.hid e4
  have D4 := Lib.hid d4; clear d4 e4
  by_cases d5 : nameOk p.ho p.own
  rotate_left
  · have HE : Hid (D = false) := by rw [HD0.out]; exact decide_eq_false fun k => d5 k.2.1.2.1
    have e5 : namedN p.ho p.own.length = false := by rw [namedN_eq]; exact decide_eq_false d5
    have E5 := Lib.hid e5
    clear d5 e5
    go_wp2_with (first | (go_at_call 42; refine (vsize_any _ _).mono ?_; rintro e w' ⟨rfl, hw⟩; subst hw) | (go_at_call 43; refine (version_any _ _).mono ?_; rintro e w' ⟨rfl, hw⟩; have hw := hw.symm; subst hw; rw [E3.out]) | (go_at_call 44; refine (named_any _ _ _ _ _).mono ?_; rintro e w' ⟨rfl, hw⟩; have hw := hw.symm; subst hw; first | rw [E4.out] | rw [E5.out]))
    go_ret
    rw [HE.out]
    exact ⟨rfl, HB2.out⟩
  have e5 : namedN p.ho p.own.length = true := by rw [namedN_eq]; exact decide_eq_true d5
  have E5 := Lib.hid e5
  have D5 := Lib.hid d5; clear d5 e5
  by_cases d6 : nameOk p.hr p.retry
  rotate_left
  · have HE : Hid (D = false) := by rw [HD0.out]; exact decide_eq_false fun k => d6 k.2.1.2.2
    have e6 : namedN p.hr p.retry.length = false := by rw [namedN_eq]; exact decide_eq_false d6
    have E6 := Lib.hid e6
    clear d6 e6
    go_wp2_with (first | (go_at_call 42; refine (vsize_any _ _).mono ?_; rintro e w' ⟨rfl, hw⟩; subst hw) | (go_at_call 43; refine (version_any _ _).mono ?_; rintro e w' ⟨rfl, hw⟩; have hw := hw.symm; subst hw; rw [E3.out]) | (go_at_call 44; refine (named_any _ _ _ _ _).mono ?_; rintro e w' ⟨rfl, hw⟩; have hw := hw.symm; subst hw; first | rw [E4.out] | rw [E5.out] | rw [E6.out]))
    go_ret
    rw [HE.out]
    exact ⟨rfl, HB2.out⟩
  have e6 : namedN p.hr p.retry.length = true := by rw [namedN_eq]; exact decide_eq_true d6
  have E6 := Lib.hid e6
  have D6 := Lib.hid d6; clear d6 e6
  have hmm : Hid (p.vs.length ≤ 16 ∧ NoBad p.vs ∧ p.vs.Nodup ↔ rightP p) := by
    show _ ↔ _
    exact ⟨fun k => ⟨⟨D1.out, D2.out, D3.out⟩, ⟨D4.out, D5.out, D6.out⟩, k.1, k.2.1, k.2.2⟩, fun k => ⟨k.2.2.1, k.2.2.2.1, k.2.2.2.2⟩⟩
  go_wp2_with (first | (go_at_call 42; refine (vsize_any _ _).mono ?_; rintro e w' ⟨rfl, hw⟩; subst hw) | (go_at_call 43; refine (version_any _ _).mono ?_; rintro e w' ⟨rfl, hw⟩; have hw := hw.symm; subst hw; rw [E3.out]) | (go_at_call 44; refine (named_any _ _ _ _ _).mono ?_; rintro e w' ⟨rfl, hw⟩; have hw := hw.symm; subst hw; first | rw [E4.out] | rw [E5.out] | rw [E6.out]))
  clear p0 p1 p8 n2 n3 n4 n5 n6 n7 e1 e2 E3 E4 E5 E6 D1 D2 D3 D4 D5 D6
  have p9 : w2.cell? ⟨w.heap.size, 9, none⟩ = some (.slice s.vA p.vs.length s.vc) := PB2.out.cell 9
  have HNB : Hid (NoBad ys ↔ NoBad p.vs) := noBad_perm HY.out
  have HCP : Hid (((Go.Lib.compact ys).length : Int) = (p.vs.length : Int) ↔ p.vs.Nodup) := by
    have := compact_nodup HY.out HS.out
    show _ ↔ _
    rw [← this]
    unfold Go.Lib.compact
    omega
  have HLB : Hid (w.heap.size < W.heap.size) := by show _ < _; have := HSW.out; omega
  by_cases m1 : p.vs.length ≤ 16
  rotate_left
  · have HE : Hid (D = false) := by rw [HD0.out]; exact decide_eq_false fun k => m1 (hmm.out.2 k).1
    have hm : ¬ ((p.vs.length : Int) ≤ 16) := by omega
    clear m1
    go_quiet (fail)
    go_wp2_with fail
    go_ret
    rw [HE.out]
    exact ⟨rfl, below_drewN HB2.out _⟩
  have hm : ((p.vs.length : Int) ≤ 16) := by omega
  have M1 := Lib.hid m1
  clear m1
  by_cases m2 : NoBad p.vs
  rotate_left
  · have HE : Hid (D = false) := by rw [HD0.out]; exact decide_eq_false fun k => m2 (hmm.out.2 k).2.1
    have hnb : decide (NoBad ys) = false := decide_eq_false fun k => m2 (HNB.out.1 k)
    have HN := Lib.hid hnb
    clear m2 hnb
    have KEY : Hid (∀ k, Calls Tryd.prog 45 #[.slice A1 p.vs.length c1, .func (.func 46) #[] #[]] (w2.drewN k) fun e w' => e = .returned (.bool true) ∧ w' = w2.drewN k) := fun k => by
      have key := hasBad_any A1 p.vs.length c1 ys (w2.drewN k) ((HO.out.rds (B' := 0)).drewN k) (by have := M1.out; omega)
      rw [HN.out] at key
      exact key
    go_quiet ((go_at_call 45; exact Calls.quiet_of_same (KEY.out _)))
    all_goals
      go_wp2_with fail
      go_ret
      rw [HE.out]
      exact ⟨rfl, below_drewN HB2.out _⟩
  have hnb : decide (NoBad ys) = true := decide_eq_true (HNB.out.2 m2)
  have HN := Lib.hid hnb
  have M2 := Lib.hid m2
  clear m2 hnb
  obtain ⟨r, hr⟩ : ∃ r, r = (((Go.Lib.compact ys).length : Int) == (p.vs.length : Int)) := ⟨_, rfl⟩
  have HE : Hid (D = r) := by
    show _ = _
    rw [HD0.out, hr]
    by_cases q : ((Go.Lib.compact ys).length : Int) = (p.vs.length : Int)
    · rw [decide_eq_true (hmm.out.1 ⟨M1.out, M2.out, HCP.out.1 q⟩)]; simp [q]
    · rw [decide_eq_false fun k => q (HCP.out.2 (hmm.out.2 k).2.2)]; simp [q]
  have hr' := hr.symm
  clear hr
  have HB0 : Hid (Below w2.heap.size w2 w2.drew) := (Below.refl _ _).drew
  go_region_held3 (fun w' => w'.cell? ⟨w.heap.size, 9, none⟩ = some (.slice s.vA p.vs.length s.vc)) (first | go_keep | exact later_cell HB3.out p9 HLB.out)
    ((first
    | (go_at_call 45
       have h0 := HB0
       have key := hasBad_any A1 p.vs.length c1 ys w2.drew ((HO.out.below HB0.out).rds (B' := 0)) (by have := M1.out; omega)
       rw [HN.out] at key
       refine key.mono ?_
       clear key h0
       rintro e w' ⟨rfl, hw⟩
       have hw := hw.symm
       subst hw)
    | (go_at_call 47
       have h0 := HB0
       have key := compact_any A1 p.vs.length c1 ys w2.drew (HO.out.below HB0.out) (by have := M1.out; omega)
       refine key.mono ?_
       clear key
       rintro e w3 ⟨⟨A4, c4, rfl⟩, hb⟩
       have HB3 : Hid (Below W.heap.size w2 w3) := (HB0.out.mono (by have := HB0.out.size; have := HSz.out; have := HB1.out; omega)).trans hb
       clear h0 HB0 hb)))
  all_goals
    go_wp2_with fail
    go_ret
    rw [HE.out]
    exact ⟨rfl, HB2.out.trans (HB3.out.mono HBW.out.size)⟩
end Go.Proofs.YtbfgoojpbhlboaaDoor
