/- ParamsSame: the walk. No condition but the table of bit places. Printed by gen_psamelaw.py. -/
import Derived.Test.YtbfgoojpbhlboaaDoorParSame
import Derived.Test.YtbfgoojpbhlboaaDoorLanes2
import Derived.Test.YtbfgoojpbhlboaaDoorRow07
set_option linter.unusedVariables false
set_option linter.unusedSimpArgs false
set_option linter.unnecessarySimpa false
namespace Go.Proofs.YtbfgoojpbhlboaaDoor
open Go Go.RowKit

/-- Both documents' params, in their boxes, seen from a later world. -/
structure PW2 (w W : World) (p q : Par) (s t : ParS) : Prop where
  bl : Below w.heap.size w W
  d : ParD W w.heap.size p s
  e : ParD W (w.heap.size + 1) q t
  h : ParAt w.heap.size W p s
  k : ParAt w.heap.size W q t
theorem PW2.below {w W W' : World} {p q : Par} {s t : ParS} (h : PW2 w W p q s t) (hb : Below W.heap.size W W') : PW2 w W' p q s t := ⟨below_next h.bl h.bl.size hb, h.d.later hb (lt_of_get h.d), h.e.later hb (lt_of_get h.e), h.h.below hb, h.k.below hb⟩
theorem Rds.offPar {w : World} {B : Nat} {k : IntKind} {A : Option Addr} {n c : Nat} {xs : List Int} (h : Rds B w k A n c xs) {g : Nat} {cs : Array Value} {fr : Nat × Nat} (hB : B ≤ g) (hg : w.heap[g]? = some (.cells cs 27 fr)) : ∀ a, 0 < n → A = some a → a.block ≠ g := by
  intro a p e q
  rcases (h.safe p a e).2 with k | ⟨cs', t, fr', h1, h2⟩
  · omega
  · rw [q, hg] at h1
    cases h1
    revert h2
    decide
theorem ParAt.offPar {w : World} {B : Nat} {p : Par} {s : ParS} (h : ParAt B w p s) {g : Nat} {cs cs' : Array Value} {fr : Nat × Nat} (hB : B ≤ g) (hg : w.heap[g]? = some (.cells cs 27 fr)) : ParAt B (w.setRow g cs') p s :=
  ⟨h.goal.putRow _ (h.goal.offPar hB hg), h.own.putRow _ (h.own.offPar hB hg), h.retry.putRow _ (h.retry.offPar hB hg), h.vs.putRow _ (h.vs.offPar hB hg)⟩
theorem PW2.offPar {w W : World} {p q : Par} {s t : ParS} (h : PW2 w W p q s t) {g : Nat} {cs cs' : Array Value} (hB : w.heap.size ≤ g) (hg : W.heap[g]? = some (.cells cs 27 (0, 0))) : PW2 w (W.setRow g cs') p q s t := by
  have n1 : w.heap.size ≠ g := fun e => by have := h.d; unfold ParD at this; rw [e, hg] at this; cases this
  have n2 : w.heap.size + 1 ≠ g := fun e => by have := h.e; unfold ParD at this; rw [e, hg] at this; cases this
  exact ⟨below_setRow h.bl hB _, (setRow_other W g _ _ n1).trans h.d, (setRow_other W g _ _ n2).trans h.e, h.h.offPar hB hg, h.k.offPar hB hg⟩
def sameAL (i : Nat) : Bool := i == 4 || i == 5
def samePR (w : World) (p q : Par) (s t : ParS) : Nat → Value → World → Prop
  | 0, v, W => v = .agg (parCs p s)
  | 1, v, W => ∃ s', v = .agg (parCs p s') ∧ ParAt 0 W p s'
  | 2, v, W => v = .agg (parCs q t)
  | 3, v, W => ∃ s', v = .agg (parCs q s') ∧ ParAt 0 W q s'
  | 4, v, W => ∃ g, v = .pointer (some ⟨g, 0, none⟩) ∧ W.heap[g]? = some (.cells par0Cs 27 (0, 0)) ∧ w.heap.size ≤ g
  | 5, v, W => ∃ g, v = .pointer (some ⟨g, 0, none⟩) ∧ W.heap[g]? = some (.cells par0Cs 27 (0, 0)) ∧ w.heap.size ≤ g
  | _, v, W => True
theorem samePR_below {w : World} {p q : Par} {s t : ParS} : ∀ (i : Nat) (v : Value) (W W' : World), samePR w p q s t i v W → Below W.heap.size W W' → samePR w p q s t i v W'
  | 0, v, W, W', h, hb => h
  | 1, v, W, W', h, hb => by obtain ⟨s', e, hr⟩ := h; exact ⟨s', e, hr.below hb⟩
  | 2, v, W, W', h, hb => h
  | 3, v, W, W', h, hb => by obtain ⟨s', e, hr⟩ := h; exact ⟨s', e, hr.below hb⟩
  | 4, v, W, W', h, hb => by obtain ⟨g, e, hr, hg⟩ := h; exact ⟨g, e, (hb.block _ (lt_of_get hr)).trans hr, hg⟩
  | 5, v, W, W', h, hb => by obtain ⟨g, e, hr, hg⟩ := h; exact ⟨g, e, (hb.block _ (lt_of_get hr)).trans hr, hg⟩
  | _ + 6, v, W, W', h, hb => trivial
theorem samePR_ptr {w : World} {p q : Par} {s t : ParS} (i : Nat) (v : Value) (W : World) (ha : sameAL i = true) (h : samePR w p q s t i v W) : ∃ g, v = .pointer (some ⟨g, 0, none⟩) ∧ g < W.heap.size := by
  simp only [sameAL, Bool.or_eq_true, beq_iff_eq] at ha
  rcases ha with rfl | rfl <;> (obtain ⟨g, e, hr, -⟩ := h; exact ⟨g, e, lt_of_get hr⟩)
def same4PR (p q : Par) (s2 t2 t : ParS) : Nat → Value → Prop
  | 0, v => v = .agg (parCs p s2)
  | 1, v => v = .agg (parCs q t2)
  | 2, v => v = .bool (decide (sameP p q))
  | 3, v => v = .agg (parCs p s2)
  | 4, v => v = .agg (parCs q t)
  | 5, v => v = .bool (decide (sameP p q))
  | 6, v => v = .bool true
  | 7, v => v = .bool true
  | 8, v => v = .agg (parCs q t2)
  | 9, v => v = .agg (parCs p s2)
  | 10, v => v = .bool (decide (sameP q p))
  | 11, v => v = .agg (parCs p s2)
  | 12, v => v = .agg (parCs q t2)
  | 13, v => v = .bool (decide (sameP p q))
  | 14, v => v = .bool true
  | 15, v => v = .bool true
  | 16, v => v = .bool true
  | 17, v => v = .agg (parCs p s2)
  | 18, v => v = .agg (parCs p s2)
  | 19, v => v = .bool true
  | 20, v => v = .bool true
  | 21, v => v = .bool true
  | 22, v => v = .bool true
  | 23, v => v = .bool true
  | _, v => True
theorem tmp_bool {xs : Array Value} {i : Nat} {b : Bool} (h : xs[i]?.getD undef = .bool b) : xs[i]? = some (.bool b) := by
  cases hh : xs[i]? with
  | none => rw [hh] at h; cases h
  | some v => rw [hh] at h; exact congrArg some h
theorem sameP_comm (p q : Par) : decide (sameP q p) = decide (sameP p q) := by
  by_cases h : sameP p q
  · rw [decide_eq_true h, decide_eq_true (sameP_symm h)]
  · rw [decide_eq_false h, decide_eq_false fun k => h (sameP_symm k)]
set_option maxHeartbeats 12800000 in
set_option maxRecDepth 100000 in
theorem paramsSame_walk (w : World) (ht : Tz w) (p q : Par) (s t : ParS) (h : ParAt w.heap.size w p s) (k : ParAt w.heap.size w q t) (bp : BytP p) (bq : BytP q) :
    Calls Tryd.prog 4 #[.agg (parCs p s), .agg (parCs q t)] w fun e w' => e = .returned (.bool true) ∧ Below w.heap.size w w' := by
  have HT := Lib.hid ht
  have BP := Lib.hid bp
  have BQ := Lib.hid bq
  obtain ⟨W, hW⟩ : ∃ W, W = (w.alloc (.cells (parCs p s) 25)).alloc (.cells (parCs q t) 25) := ⟨_, rfl⟩
  have hbw : Below w.heap.size w W := by rw [hW]; exact below_pair _ _
  have P0 : Hid (PW2 w W p q s t) := ⟨hbw, by rw [hW]; exact heap_alloc2_old w _ _, by rw [hW]; exact heap_alloc2_new w _ _, h.below hbw, k.below hbw⟩
  have hmix : Tryd.prog.follows .mixedOrders = true := by kernel_rfl
  clear h k hbw ht bp bq
  obtain ⟨⟨a0, a1, a2, a3, a4⟩, a5, a6, a7, a8, a9⟩ := P0.out.d.ten
  have key := light_any p s W
  unfold parCs at hW key ⊢
  go_enter Tryd.func4, Tryd.ntmps4
  subst hW
  go_wp2_with fail
  refine key.mono ?_
  clear key a0 a1 a2 a3 a4 a5 a6 a7 a8 a9
  rintro e w1 ⟨rfl, hb⟩
  have P1 := Lib.hid (P0.out.below hb)
  clear P0 hb
  by_cases hl : lightP p
  rotate_left
  · rw [decide_eq_false hl]
    clear hl
    go_wp2_with fail
    go_ret
    exact ⟨rfl, P1.out.bl⟩
  rw [decide_eq_true hl]
  have HL := Lib.hid hl
  clear hl
  obtain ⟨⟨a0, a1, a2, a3, a4⟩, a5, a6, a7, a8, a9⟩ := P1.out.e.ten
  have key := light_any q t w1
  unfold parCs at key
  go_wp2_with fail
  refine key.mono ?_
  clear key a0 a1 a2 a3 a4 a5 a6 a7 a8 a9
  rintro e w2 ⟨rfl, hb⟩
  have P2 := Lib.hid (P1.out.below hb)
  clear P1 hb
  by_cases hl : lightP q
  rotate_left
  · rw [decide_eq_false hl]
    clear hl
    go_wp2_with fail
    go_ret
    exact ⟨rfl, P2.out.bl⟩
  rw [decide_eq_true hl]
  have HL2 := Lib.hid hl
  clear hl
  go_wp2_with fail
  refine wp_lanes2 hmix 6 (fun W => PW2 w W p q s t) (samePR w p q s t) sameAL (by decide +kernel) (by decide +kernel) 43 rfl (by decide +kernel) (by decide) (fun W W' h hb => h.below hb) samePR_below samePR_ptr (P2.out.below ((Below.refl _ _).drew)) ?_
  refine ⟨?_, ?_, ?_, ?_, ?_, ?_, ?_⟩
  · intro a W hb hs hun hdep
    have e1 := hun 2 (by decide +kernel)
    simp at e1
    obtain ⟨⟨a0, a1, a2, a3, a4⟩, a5, a6, a7, a8, a9⟩ := hs.d.ten
    refine ⟨rfl, ?_⟩
    unfold Oper.wp
    go_simp
    exact ⟨_, rfl, rfl, Below.refl _ _, fun h => by cases h⟩
  · intro a W hb hs hun hdep
    have e1 : _ = _ := hdep 0 15 (by decide +kernel) rfl
    refine ⟨rfl, ?_⟩
    unfold Oper.wp
    go_simp
    refine (of_any p s W hs.h HL.out).mono ?_
    rintro e W' ⟨s', rfl, hx, hb'⟩
    exact ⟨_, rfl, ⟨s', rfl, hx⟩, hb', fun h => by cases h⟩
  · intro a W hb hs hun hdep
    have e1 := hun 3 (by decide +kernel)
    simp at e1
    obtain ⟨⟨a0, a1, a2, a3, a4⟩, a5, a6, a7, a8, a9⟩ := hs.e.ten
    refine ⟨rfl, ?_⟩
    unfold Oper.wp
    go_simp
    exact ⟨_, rfl, rfl, Below.refl _ _, fun h => by cases h⟩
  · intro a W hb hs hun hdep
    have e1 : _ = _ := hdep 2 17 (by decide +kernel) rfl
    refine ⟨rfl, ?_⟩
    unfold Oper.wp
    go_simp
    refine (of_any q t W hs.k HL2.out).mono ?_
    rintro e W' ⟨s', rfl, hx, hb'⟩
    exact ⟨_, rfl, ⟨s', rfl, hx⟩, hb', fun h => by cases h⟩
  · intro a W hb hs hun hdep
    refine ⟨rfl, ?_⟩
    unfold Oper.wp
    go_simp
    exact ⟨_, rfl, ⟨_, rfl, heap_alloc_new W _, hs.bl.size⟩, below_new _, fun _ => rfl⟩
  · intro a W hb hs hun hdep
    refine ⟨rfl, ?_⟩
    unfold Oper.wp
    go_simp
    exact ⟨_, rfl, ⟨_, rfl, heap_alloc_new W _, hs.bl.size⟩, below_new _, fun _ => rfl⟩
  · intro a W hds hts hb hs hun hpr hne
    obtain ⟨s2, e1, hx⟩ := hpr 1 16 (by decide) rfl
    obtain ⟨t2, e3, hy⟩ := hpr 3 18 (by decide) rfl
    obtain ⟨g, e4, hg, hgw⟩ := hpr 4 5 (by decide) rfl
    obtain ⟨g', e5, hg', hgw'⟩ := hpr 5 6 (by decide) rfl
    have hgg : g ≠ g' := by
      have := hne 4 5 5 6 (by decide) (by decide) (by decide) rfl rfl rfl rfl
      rw [e4, e5] at this
      intro q; subst q; exact this rfl
    have v1 : a.eval (.tmp 16) = .agg (parCs p s2) := by show a.tmps.getD 16 undef = _; simpa using e1
    have v3 : a.eval (.tmp 18) = .agg (parCs q t2) := by show a.tmps.getD 18 undef = _; simpa using e3
    have v4 : a.eval (.tmp 5) = .pointer (some ⟨g, 0, none⟩) := by show a.tmps.getD 5 undef = _; simpa using e4
    have v5 : a.eval (.tmp 6) = .pointer (some ⟨g', 0, none⟩) := by show a.tmps.getD 6 undef = _; simpa using e5
    have r1 := run_storeAt_row (P := Tryd.prog) (w := W) 27 g par0Cs (parCs p s2) 27 par_size hg rfl (by simp [parCs, Value.oneCell'])
    have hg2 : (W.setRow g (parCs p s2)).heap[g']? = some (.cells par0Cs 27 (0, 0)) := (setRow_other W g g' _ (Ne.symm hgg)).trans hg'
    have r2 := run_storeAt_row (P := Tryd.prog) (w := W.setRow g (parCs p s2)) 27 g' par0Cs (parCs q t2) 27 par_size hg2 rfl (by simp [parCs, Value.oneCell'])
    refine ⟨rfl, ?_⟩
    unfold Oper.wp execOp
    simp only [v1, v4, Sem.run_bind, r1, Result.andThen_ok, Sem.run_pure]
    simp only [Oper.upon, Act.put]
    refine ⟨rfl, ?_⟩
    unfold Oper.wp execOp
    simp only [v3, v5, Sem.run_bind, r2, Result.andThen_ok, Sem.run_pure]
    simp only [Oper.upon, Act.put, wpTail]
    obtain ⟨W4, hW4⟩ : ∃ W4, W4 = (W.setRow g (parCs p s2)).setRow g' (parCs q t2) := ⟨_, rfl⟩
    have hrow1 : (W.setRow g (parCs p s2)).heap[g]? = some (.cells (parCs p s2) 27 (0, 0)) := setRow_heap _ g _ _ _ _ hg
    have P4 : Hid (PW2 w W4 p q s t) := by rw [hW4]; exact (hs.offPar hgw hg).offPar hgw' hg2
    have X4 : Hid (PX W4 g p s2) := by
      rw [hW4]
      exact ⟨(setRow_other _ g' g _ hgg).trans hrow1, (hx.offPar (Nat.zero_le _) hg).offPar (Nat.zero_le _) hg2⟩
    have Y4 : Hid (PX W4 g' q t2) := by
      rw [hW4]
      exact ⟨setRow_heap _ g' _ _ _ _ hg2, (hy.offPar (Nat.zero_le _) hg).offPar (Nat.zero_le _) hg2⟩
    rw [← hW4]
    have ea : a.tmps = #[a.tmps[0]?.getD undef, a.tmps[1]?.getD undef, a.tmps[2]?.getD undef, a.tmps[3]?.getD undef, a.tmps[4]?.getD undef, a.tmps[5]?.getD undef, a.tmps[6]?.getD undef, a.tmps[7]?.getD undef, a.tmps[8]?.getD undef, a.tmps[9]?.getD undef, a.tmps[10]?.getD undef, a.tmps[11]?.getD undef, a.tmps[12]?.getD undef, a.tmps[13]?.getD undef, a.tmps[14]?.getD undef, a.tmps[15]?.getD undef, a.tmps[16]?.getD undef, a.tmps[17]?.getD undef, a.tmps[18]?.getD undef, a.tmps[19]?.getD undef, a.tmps[20]?.getD undef, a.tmps[21]?.getD undef, a.tmps[22]?.getD undef, a.tmps[23]?.getD undef, a.tmps[24]?.getD undef, a.tmps[25]?.getD undef, a.tmps[26]?.getD undef, a.tmps[27]?.getD undef, a.tmps[28]?.getD undef, a.tmps[29]?.getD undef, a.tmps[30]?.getD undef, a.tmps[31]?.getD undef, a.tmps[32]?.getD undef, a.tmps[33]?.getD undef, a.tmps[34]?.getD undef, a.tmps[35]?.getD undef, a.tmps[36]?.getD undef, a.tmps[37]?.getD undef, a.tmps[38]?.getD undef, a.tmps[39]?.getD undef, a.tmps[40]?.getD undef, a.tmps[41]?.getD undef, a.tmps[42]?.getD undef] := arr_map a.tmps 43 (by simpa using hts)
    have u2 := hun 2 (by decide +kernel)
    have u3 := hun 3 (by decide +kernel)
    have u4 := hun 4 (by decide +kernel)
    simp at u2 u3 u4
    rw [u2, u3, u4, e4, e5] at ea
    obtain ⟨tm, ds⟩ := a
    simp only at ea hds
    subst hds
    clear hun hpr hne e1 e3 e4 e5 u2 u3 u4 v1 v3 v4 v5 hts hW4 r1 r2 hg hg' hg2 hx hy hrow1 hgw hgw' hb hs P2
    generalize tm[0]?.getD undef = x0 at ea
    generalize tm[1]?.getD undef = x1 at ea
    generalize tm[7]?.getD undef = x7 at ea
    generalize tm[8]?.getD undef = x8 at ea
    generalize tm[9]?.getD undef = x9 at ea
    generalize tm[10]?.getD undef = x10 at ea
    generalize tm[11]?.getD undef = x11 at ea
    generalize tm[12]?.getD undef = x12 at ea
    generalize tm[13]?.getD undef = x13 at ea
    generalize tm[14]?.getD undef = x14 at ea
    generalize tm[15]?.getD undef = x15 at ea
    generalize tm[16]?.getD undef = x16 at ea
    generalize tm[17]?.getD undef = x17 at ea
    generalize tm[18]?.getD undef = x18 at ea
    generalize tm[19]?.getD undef = x19 at ea
    generalize tm[20]?.getD undef = x20 at ea
    generalize tm[21]?.getD undef = x21 at ea
    generalize tm[22]?.getD undef = x22 at ea
    generalize tm[23]?.getD undef = x23 at ea
    generalize tm[24]?.getD undef = x24 at ea
    generalize tm[25]?.getD undef = x25 at ea
    generalize tm[26]?.getD undef = x26 at ea
    generalize tm[27]?.getD undef = x27 at ea
    generalize tm[28]?.getD undef = x28 at ea
    generalize tm[29]?.getD undef = x29 at ea
    generalize tm[30]?.getD undef = x30 at ea
    generalize tm[31]?.getD undef = x31 at ea
    generalize tm[32]?.getD undef = x32 at ea
    generalize tm[33]?.getD undef = x33 at ea
    generalize tm[34]?.getD undef = x34 at ea
    generalize tm[35]?.getD undef = x35 at ea
    generalize tm[36]?.getD undef = x36 at ea
    generalize tm[37]?.getD undef = x37 at ea
    generalize tm[38]?.getD undef = x38 at ea
    generalize tm[39]?.getD undef = x39 at ea
    generalize tm[40]?.getD undef = x40 at ea
    generalize tm[41]?.getD undef = x41 at ea
    generalize tm[42]?.getD undef = x42 at ea
    subst ea
    go_wp2_with fail
    refine wp_lanes2 hmix 24 (fun W => PW2 w W p q s t ∧ PX W g p s2 ∧ PX W g' q t2) (fun i v _ => same4PR p q s2 t2 t i v) (fun _ => false) (by decide +kernel) (by decide +kernel) 43 rfl (by decide +kernel) (by decide) (fun W W' h hb => ⟨h.1.below hb, h.2.1.below hb, h.2.2.below hb⟩) (fun i v W W' h hb => h) (fun i v W ha => by cases ha) ⟨P4.out.below ((Below.refl _ _).drew), X4.out.below ((Below.refl _ _).drew), Y4.out.below ((Below.refl _ _).drew)⟩ ?_
    refine ⟨?_, ?_, ?_, ?_, ?_, ?_, ?_, ?_, ?_, ?_, ?_, ?_, ?_, ?_, ?_, ?_, ?_, ?_, ?_, ?_, ?_, ?_, ?_, ?_, ?_⟩
    · intro a W hb hs hun hdep
      have e1 := hun 5 (by decide +kernel)
      simp at e1
      obtain ⟨⟨a0, a1, a2, a3, a4⟩, a5, a6, a7, a8, a9⟩ := hs.2.1.b.ten
      refine ⟨rfl, ?_⟩
      unfold Oper.wp
      go_simp
      exact ⟨_, rfl, rfl, Below.refl _ _⟩
    · intro a W hb hs hun hdep
      have e1 := hun 6 (by decide +kernel)
      simp at e1
      obtain ⟨⟨a0, a1, a2, a3, a4⟩, a5, a6, a7, a8, a9⟩ := hs.2.2.b.ten
      refine ⟨rfl, ?_⟩
      unfold Oper.wp
      go_simp
      exact ⟨_, rfl, rfl, Below.refl _ _⟩
    · intro a W hb hs hun hdep
      have e1 : _ = _ := hdep 0 19 (by decide +kernel) rfl
      have e2 : _ = _ := hdep 1 20 (by decide +kernel) rfl
      refine ⟨rfl, ?_⟩
      unfold Oper.wp
      go_simp
      refine (psame_any p q s2 t2 W hs.2.1.h hs.2.2.h BP.out BQ.out).mono ?_
      rintro e W' ⟨rfl, hb'⟩
      exact ⟨_, rfl, rfl, hb'⟩
    · intro a W hb hs hun hdep
      have e1 := hun 5 (by decide +kernel)
      simp at e1
      obtain ⟨⟨a0, a1, a2, a3, a4⟩, a5, a6, a7, a8, a9⟩ := hs.2.1.b.ten
      refine ⟨rfl, ?_⟩
      unfold Oper.wp
      go_simp
      exact ⟨_, rfl, rfl, Below.refl _ _⟩
    · intro a W hb hs hun hdep
      have e1 := hun 3 (by decide +kernel)
      simp at e1
      obtain ⟨⟨a0, a1, a2, a3, a4⟩, a5, a6, a7, a8, a9⟩ := hs.1.e.ten
      refine ⟨rfl, ?_⟩
      unfold Oper.wp
      go_simp
      exact ⟨_, rfl, rfl, Below.refl _ _⟩
    · intro a W hb hs hun hdep
      have e1 : _ = _ := hdep 3 22 (by decide +kernel) rfl
      have e2 : _ = _ := hdep 4 23 (by decide +kernel) rfl
      refine ⟨rfl, ?_⟩
      unfold Oper.wp
      go_simp
      refine (told_any p q s2 t W hs.2.1.h hs.1.k).mono ?_
      rintro e W' ⟨rfl, hb'⟩
      exact ⟨_, rfl, rfl, hb'⟩
    · intro a W hb hs hun hdep
      have e1 : _ = _ := hdep 2 21 (by decide +kernel) rfl
      have e2 : _ = _ := hdep 5 24 (by decide +kernel) rfl
      obtain ⟨d, hd⟩ : ∃ d, d = decide (sameP p q) := ⟨_, rfl⟩
      rw [← hd] at e1 e2
      clear hd
      refine ⟨rfl, ?_⟩
      unfold Oper.wp
      go_simp
      exact ⟨_, rfl, by simp [same4PR], Below.refl _ _⟩
    · intro a W hb hs hun hdep
      have e1 : _ = _ := hdep 6 25 (by decide +kernel) rfl
      refine ⟨rfl, ?_⟩
      unfold Oper.wp
      go_simp
      exact ⟨_, rfl, rfl, Below.refl _ _⟩
    · intro a W hb hs hun hdep
      have e1 := hun 6 (by decide +kernel)
      simp at e1
      obtain ⟨⟨a0, a1, a2, a3, a4⟩, a5, a6, a7, a8, a9⟩ := hs.2.2.b.ten
      have eg : _ = _ := hdep 7 26 (by decide +kernel) rfl
      have eg' := tmp_bool eg
      refine ⟨by simp [Region.wanted, yielded, eg'], ?_⟩
      unfold Oper.wp
      go_simp
      exact ⟨_, rfl, rfl, Below.refl _ _⟩
    · intro a W hb hs hun hdep
      have e1 := hun 5 (by decide +kernel)
      simp at e1
      obtain ⟨⟨a0, a1, a2, a3, a4⟩, a5, a6, a7, a8, a9⟩ := hs.2.1.b.ten
      have eg : _ = _ := hdep 7 26 (by decide +kernel) rfl
      have eg' := tmp_bool eg
      refine ⟨by simp [Region.wanted, yielded, eg'], ?_⟩
      unfold Oper.wp
      go_simp
      exact ⟨_, rfl, rfl, Below.refl _ _⟩
    · intro a W hb hs hun hdep
      have e1 : _ = _ := hdep 8 27 (by decide +kernel) rfl
      have e2 : _ = _ := hdep 9 28 (by decide +kernel) rfl
      have eg : _ = _ := hdep 7 26 (by decide +kernel) rfl
      have eg' := tmp_bool eg
      refine ⟨by simp [Region.wanted, yielded, eg'], ?_⟩
      unfold Oper.wp
      go_simp
      refine (psame_any q p t2 s2 W hs.2.2.h hs.2.1.h BQ.out BP.out).mono ?_
      rintro e W' ⟨rfl, hb'⟩
      exact ⟨_, rfl, rfl, hb'⟩
    · intro a W hb hs hun hdep
      have e1 := hun 5 (by decide +kernel)
      simp at e1
      obtain ⟨⟨a0, a1, a2, a3, a4⟩, a5, a6, a7, a8, a9⟩ := hs.2.1.b.ten
      have eg : _ = _ := hdep 7 26 (by decide +kernel) rfl
      have eg' := tmp_bool eg
      refine ⟨by simp [Region.wanted, yielded, eg'], ?_⟩
      unfold Oper.wp
      go_simp
      exact ⟨_, rfl, rfl, Below.refl _ _⟩
    · intro a W hb hs hun hdep
      have e1 := hun 6 (by decide +kernel)
      simp at e1
      obtain ⟨⟨a0, a1, a2, a3, a4⟩, a5, a6, a7, a8, a9⟩ := hs.2.2.b.ten
      have eg : _ = _ := hdep 7 26 (by decide +kernel) rfl
      have eg' := tmp_bool eg
      refine ⟨by simp [Region.wanted, yielded, eg'], ?_⟩
      unfold Oper.wp
      go_simp
      exact ⟨_, rfl, rfl, Below.refl _ _⟩
    · intro a W hb hs hun hdep
      have e1 : _ = _ := hdep 11 30 (by decide +kernel) rfl
      have e2 : _ = _ := hdep 12 31 (by decide +kernel) rfl
      have eg : _ = _ := hdep 7 26 (by decide +kernel) rfl
      have eg' := tmp_bool eg
      refine ⟨by simp [Region.wanted, yielded, eg'], ?_⟩
      unfold Oper.wp
      go_simp
      refine (psame_any p q s2 t2 W hs.2.1.h hs.2.2.h BP.out BQ.out).mono ?_
      rintro e W' ⟨rfl, hb'⟩
      exact ⟨_, rfl, rfl, hb'⟩
    · intro a W hb hs hun hdep
      have e1 : _ = _ := hdep 10 29 (by decide +kernel) rfl
      have e2 : _ = _ := hdep 13 32 (by decide +kernel) rfl
      rw [sameP_comm] at e1
      obtain ⟨d, hd⟩ : ∃ d, d = decide (sameP p q) := ⟨_, rfl⟩
      rw [← hd] at e1 e2
      clear hd
      have eg : _ = _ := hdep 7 26 (by decide +kernel) rfl
      have eg' := tmp_bool eg
      refine ⟨by simp [Region.wanted, yielded, eg'], ?_⟩
      unfold Oper.wp
      go_simp
      exact ⟨_, rfl, by simp [same4PR], Below.refl _ _⟩
    · intro a W hb hs hun hdep
      have e1 : _ = _ := hdep 7 26 (by decide +kernel) rfl
      have e2 : _ = _ := hdep 14 33 (by decide +kernel) rfl
      refine ⟨rfl, ?_⟩
      unfold Oper.wp
      go_simp
      exact ⟨_, rfl, rfl, Below.refl _ _⟩
    · intro a W hb hs hun hdep
      have e1 : _ = _ := hdep 15 34 (by decide +kernel) rfl
      refine ⟨rfl, ?_⟩
      unfold Oper.wp
      go_simp
      exact ⟨_, rfl, rfl, Below.refl _ _⟩
    · intro a W hb hs hun hdep
      have e1 := hun 5 (by decide +kernel)
      simp at e1
      obtain ⟨⟨a0, a1, a2, a3, a4⟩, a5, a6, a7, a8, a9⟩ := hs.2.1.b.ten
      have eg : _ = _ := hdep 16 35 (by decide +kernel) rfl
      have eg' := tmp_bool eg
      refine ⟨by simp [Region.wanted, yielded, eg'], ?_⟩
      unfold Oper.wp
      go_simp
      exact ⟨_, rfl, rfl, Below.refl _ _⟩
    · intro a W hb hs hun hdep
      have e1 := hun 5 (by decide +kernel)
      simp at e1
      obtain ⟨⟨a0, a1, a2, a3, a4⟩, a5, a6, a7, a8, a9⟩ := hs.2.1.b.ten
      have eg : _ = _ := hdep 16 35 (by decide +kernel) rfl
      have eg' := tmp_bool eg
      refine ⟨by simp [Region.wanted, yielded, eg'], ?_⟩
      unfold Oper.wp
      go_simp
      exact ⟨_, rfl, rfl, Below.refl _ _⟩
    · intro a W hb hs hun hdep
      have e1 : _ = _ := hdep 17 36 (by decide +kernel) rfl
      have e2 : _ = _ := hdep 18 37 (by decide +kernel) rfl
      have eg : _ = _ := hdep 16 35 (by decide +kernel) rfl
      have eg' := tmp_bool eg
      refine ⟨by simp [Region.wanted, yielded, eg'], ?_⟩
      unfold Oper.wp
      go_simp
      refine (psame_any p p s2 s2 W hs.2.1.h hs.2.1.h BP.out BP.out).mono ?_
      rintro e W' ⟨rfl, hb'⟩
      exact ⟨_, rfl, by rw [decide_eq_true (sameP_refl p)]; rfl, hb'⟩
    · intro a W hb hs hun hdep
      have e1 : _ = _ := hdep 16 35 (by decide +kernel) rfl
      have e2 : _ = _ := hdep 19 38 (by decide +kernel) rfl
      refine ⟨rfl, ?_⟩
      unfold Oper.wp
      go_simp
      exact ⟨_, rfl, rfl, Below.refl _ _⟩
    · intro a W hb hs hun hdep
      have e1 : _ = _ := hdep 20 39 (by decide +kernel) rfl
      refine ⟨rfl, ?_⟩
      unfold Oper.wp
      go_simp
      exact ⟨_, rfl, rfl, Below.refl _ _⟩
    · intro a W hb hs hun hdep
      have eg : _ = _ := hdep 21 40 (by decide +kernel) rfl
      have eg' := tmp_bool eg
      refine ⟨by simp [Region.wanted, yielded, eg'], ?_⟩
      unfold Oper.wp
      go_simp
      refine (awake07_any W (HT.out.later hs.1.bl)).mono ?_
      rintro e W' ⟨rfl, hb'⟩
      exact ⟨_, rfl, rfl, hb'⟩
    · intro a W hb hs hun hdep
      have e1 : _ = _ := hdep 21 40 (by decide +kernel) rfl
      have e2 : _ = _ := hdep 22 41 (by decide +kernel) rfl
      refine ⟨rfl, ?_⟩
      unfold Oper.wp
      go_simp
      exact ⟨_, rfl, rfl, Below.refl _ _⟩
    · intro a W hds hts hb hs hun hpr hne
      have e1 : _ = _ := hpr 23 42 (by decide) rfl
      have v1 : a.eval (.tmp 42) = .bool true := by show a.tmps.getD 42 undef = _; simpa using e1
      refine ⟨rfl, ?_⟩
      unfold Oper.wp execOp
      simp only [v1, Sem.run_bind, Result.andThen_ok, Sem.run_pure]
      simp only [Oper.upon, Act.put, wpTail, Exit.then]
      have hts' : a.tmps.size = 43 := by simpa using hts
      go_wp2_with fail
      refine bodyPost_ret (v := .bool true) (by simp [results, Tryd.results4, hts']) (by simpa using hds) ?_
      exact ⟨rfl, hs.1.bl⟩
theorem paramsSame_row (w : World) (ht : Tz w) {v u : Value} (h : ParArg w v) (k : ParArg w u) : Calls Tryd.prog 4 #[v, u] w fun e w' => e = .returned (.bool true) ∧ Below w.heap.size w w' := by
  obtain ⟨p, s, rfl, h, bp⟩ := h
  obtain ⟨q, t, rfl, k, bq⟩ := k
  exact paramsSame_walk w ht p q s t h k bp bq
end Go.Proofs.YtbfgoojpbhlboaaDoor
