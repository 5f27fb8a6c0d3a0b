/- ParamsBack: the walk. No condition but the table of bit places. Printed by gen_parback.py. -/
import Derived.Test.YtbfgoojpbhlboaaDoorParRead
import Derived.Test.YtbfgoojpbhlboaaDoorParamsSame
set_option linter.unusedVariables false
set_option linter.unusedSimpArgs false
set_option linter.unnecessarySimpa false
namespace Go.Proofs.YtbfgoojpbhlboaaDoor
open Go Go.RowKit

theorem fieldB_le (n : Int) (b : List Int) : (fieldB n b).length ≤ 16 + b.length := by
  unfold fieldB giveB
  rw [List.length_append, List.length_append, varB_len, varB_len]
  have := sizeV_le n
  have := sizeV_le (b.length : Int)
  omega
theorem fieldB_pos (n : Int) (b : List Int) (h : sizeV n ≠ 0) : 0 < (fieldB n b).length := by
  unfold fieldB giveB
  rw [List.length_append, varB_len]
  omega
theorem nameB_le (n : Int) (t : Bool) (b : List Int) : (nameB n t b).length ≤ 16 + b.length := by
  unfold nameB
  split
  · exact fieldB_le n b
  · simp
theorem writeB_le {p : Par} (h : rightP p) : (writeB p).length ≤ 500 := by
  obtain ⟨-, ⟨n1, n2, n3⟩, l1, -⟩ := h
  unfold nameOk at n1 n2 n3
  unfold writeB
  simp only [List.length_append]
  have a1 := nameB_le 0 p.hg p.goal
  have a2 := fieldB_le 1 (varB p.idle)
  have a3 := fieldB_le 4 (varB p.data)
  have a4 := nameB_le 15 p.ho p.own
  have a5 := nameB_le 16 p.hr p.retry
  have a6 := fieldB_le 17 (bigL (p.chosen :: p.vs))
  rw [varB_len] at a2 a3
  rw [bigL_len, List.length_cons] at a6
  have := sizeV_le p.idle
  have := sizeV_le p.data
  omega
theorem writeB_pos (p : Par) : 0 < (writeB p).length := by
  unfold writeB
  simp only [List.length_append]
  have := fieldB_pos 17 (bigL (p.chosen :: p.vs)) (by decide)
  omega
theorem writeB_byt (p : Par) (h : BytP p) : Byt (writeB p) := by
  have hv : ∀ n, Byt (varB n) := varB_byt
  have hf : ∀ n b, Byt b → Byt (fieldB n b) := fun n b hb x hx => by
    unfold fieldB giveB at hx
    simp only [List.mem_append] at hx
    rcases hx with hx | hx | hx
    · exact hv _ x hx
    · exact hv _ x hx
    · exact hb x hx
  have hn : ∀ n t b, Byt b → Byt (nameB n t b) := fun n t b hb x hx => by
    unfold nameB at hx
    split at hx
    · exact hf n b hb x hx
    · simp at hx
  have hl : ∀ l, Byt (bigL l) := fun l x hx => by
    obtain ⟨y, -, hy⟩ := List.mem_flatMap.1 hx
    exact bigB_byt y x hy
  intro x hx
  unfold writeB at hx
  simp only [List.mem_append] at hx
  rcases hx with ((((hx | hx) | hx) | hx) | hx) | hx
  · exact hn _ _ _ h.goal x hx
  · exact hf _ _ (hv _) x hx
  · exact hf _ _ (hv _) x hx
  · exact hn _ _ _ h.own x hx
  · exact hn _ _ _ h.retry x hx
  · exact hf _ _ (hl _) x hx
def backPR (p : Par) (s s3 : ParS) : Nat → Value → World → Prop
  | 0, v, W => v = .int .i64 0
  | 3, v, W => v = .agg (parCs p s3)
  | 4, v, W => v = .agg (parCs p s)
  | 8, v, W => v = .agg (parCs p s3)
  | 9, v, W => v = .agg (parCs p s)
  | 10, v, W => ∃ s', v = .agg (parCs p s') ∧ ParAt 0 W p s'
  | _, v, W => v = .bool true
theorem backPR_below {p : Par} {s s3 : ParS} (i : Nat) (v : Value) (W W' : World) (h : backPR p s s3 i v W) (hb : Below W.heap.size W W') : backPR p s s3 i v W' := by
  unfold backPR at h ⊢
  split at h <;> first | exact h | (obtain ⟨s', e, hr⟩ := h; exact ⟨s', e, hr.below hb⟩) | (split <;> first | exact h | contradiction | simp_all)
set_option maxHeartbeats 12800000 in
set_option maxRecDepth 100000 in
theorem paramsBack_walk (w : World) (ht : Tz w) (p : Par) (s : ParS) (h : ParAt w.heap.size w p s) (bp : BytP p) :
    Calls Tryd.prog 7 #[.agg (parCs p s)] w fun e w' => e = .returned (.bool true) ∧ Below w.heap.size w w' := by
  have HT := Lib.hid ht
  have BP := Lib.hid bp
  obtain ⟨W, hW⟩ : ∃ W, W = w.alloc (.cells (parCs p s) 25) := ⟨_, rfl⟩
  have hbw : Below w.heap.size w W := by rw [hW]; exact below_new _
  have P0 : Hid (PW w W w.heap.size p s) := ⟨hbw, by rw [hW]; exact heap_alloc_new w _, h.below hbw⟩
  have hmix : Tryd.prog.follows .mixedOrders = true := by kernel_rfl
  clear h hbw ht bp
  obtain ⟨⟨a0, a1, a2, a3, a4⟩, a5, a6, a7, a8, a9⟩ := P0.out.d.ten
  have key := light_any p s W
  unfold parCs at hW key ⊢
  go_enter Tryd.func7, Tryd.ntmps7
  subst hW
  go_wp2_with fail
  refine key.mono ?_
  clear key a0 a1 a2 a3 a4 a5 a6 a7 a8 a9
  rintro e w1 ⟨rfl, hb⟩
  have P1 := Lib.hid (P0.out.below hb)
  clear P0 hb
  by_cases hl : lightP p
  rotate_left
  · rw [decide_eq_false hl]
    clear hl
    go_wp2_with fail
    go_ret
    exact ⟨rfl, P1.out.bl⟩
  rw [decide_eq_true hl]
  obtain ⟨⟨a0, a1, a2, a3, a4⟩, a5, a6, a7, a8, a9⟩ := P1.out.d.ten
  have key := of_any p s w1 P1.out.h hl
  have HL := Lib.hid hl
  clear hl
  unfold parCs at key
  go_wp2_with fail
  refine key.mono ?_
  clear key a0 a1 a2 a3 a4 a5 a6 a7 a8 a9
  rintro e w2 ⟨s2, rfl, hx, hb⟩
  have P2 := Lib.hid (P1.out.below hb)
  clear P1 hb
  have key := write_any p s2 w2 hx HL.out (HT.out.later P2.out.bl) (fun W' h' => right_any p s2 W' h' (by have := HL.out.2.2.2; omega))
  unfold parCs at key
  clear hx
  go_wp2_with fail
  refine key.mono ?_
  clear key
  rintro e w4 ⟨v4, rfl, ho, hb⟩
  have P4 := Lib.hid (P2.out.below hb)
  obtain ⟨L, hL⟩ : ∃ L, L = writeP p := ⟨_, rfl⟩
  rw [← hL] at ho
  obtain ⟨A4, c4, rfl⟩ := ho.slice
  have HV4 := Lib.hid (ho.rds (B' := w4.heap.size))
  have HLE := Lib.hid hL
  clear ho hb hL P2
  by_cases hr : rightP p
  rotate_left
  · have hL0 : L = [] := HLE.out.trans (if_neg hr)
    subst hL0
    simp only [List.length_nil]
    clear hr HV4
    go_wp2_with fail
    refine (awake07_any w4 (HT.out.later P4.out.bl)).mono ?_
    rintro e w9 ⟨rfl, hb⟩
    have P9 := Lib.hid (P4.out.below hb)
    clear hb P4
    go_wp2_with fail
    go_ret
    exact ⟨rfl, P9.out.bl⟩
  have hLB : L = writeB p := HLE.out.trans (if_pos hr)
  have HPL : Hid (readP L = (p, 0)) := by
    show _ = _
    rw [hLB]
    exact write_read hr (writeB_le hr)
  have hLn : 0 < L.length := by rw [hLB]; exact writeB_pos p
  have hBY : Byt L := by rw [hLB]; exact writeB_byt p BP.out
  have hL0 : ((L.length : Int) == 0) = false := by simp; intro h; subst h; simp at hLn
  have key := readP_any w4 HV4.out hBY
  unfold ReadPPost at key
  rw [HPL.out] at key
  clear hLB hBY hr hLn
  go_wp2_with fail
  refine key.mono ?_
  clear key hL0
  rintro e w5 ⟨s3, rfl, hx, hb⟩
  have P5 := Lib.hid (P4.out.below hb)
  clear P4 hb HV4
  simp only at hx ⊢
  obtain ⟨W6, hW6⟩ : ∃ W6, W6 = w5.alloc (.cells (parCs p s3) 27) := ⟨_, rfl⟩
  have hb3 : Below w5.heap.size w5 W6 := by rw [hW6]; exact below_new _
  have P6 := Lib.hid (P5.out.below hb3)
  have X6 : Hid (PX W6 w5.heap.size p s3) := ⟨by rw [hW6]; exact heap_alloc_new w5 _, hx.below hb3⟩
  unfold parCs at hW6 ⊢
  clear hx hb3 P5
  subst hW6
  go_wp2_with fail
  refine wp_lanes2 hmix 16 (fun W => PW w W w.heap.size p s ∧ PX W w5.heap.size p s3) (backPR p s s3) (fun _ => false) (by decide +kernel) (by decide +kernel) 37 rfl (by decide +kernel) (by decide) (fun W W' h hb => ⟨h.1.below hb, h.2.below hb⟩) backPR_below (fun i v W ha => by cases ha) ⟨P6.out.below ((Below.refl _ _).drew), X6.out.below ((Below.refl _ _).drew)⟩ ?_
  refine ⟨?_, ?_, ?_, ?_, ?_, ?_, ?_, ?_, ?_, ?_, ?_, ?_, ?_, ?_, ?_, ?_, ?_⟩
  · intro a W hb hs hun hdep
    have u1 := hun 5 (by decide +kernel)
    simp at u1
    refine ⟨rfl, ?_⟩
    unfold Oper.wp
    go_simp
    exact ⟨_, rfl, rfl, Below.refl _ _⟩
  · intro a W hb hs hun hdep
    have e1 : _ = _ := hdep 0 21 (by decide +kernel) rfl
    refine ⟨rfl, ?_⟩
    unfold Oper.wp
    go_simp
    exact ⟨_, rfl, rfl, Below.refl _ _⟩
  · intro a W hb hs hun hdep
    have e1 : _ = _ := hdep 1 22 (by decide +kernel) rfl
    refine ⟨rfl, ?_⟩
    unfold Oper.wp
    go_simp
    exact ⟨_, rfl, rfl, Below.refl _ _⟩
  · intro a W hb hs hun hdep
    have u1 := hun 4 (by decide +kernel)
    simp at u1
    obtain ⟨⟨a0, a1, a2, a3, a4⟩, a5, a6, a7, a8, a9⟩ := hs.2.b.ten
    have eg : _ = _ := hdep 2 23 (by decide +kernel) rfl
    have eg' := tmp_bool eg
    refine ⟨by simp [Region.wanted, yielded, eg'], ?_⟩
    unfold Oper.wp
    go_simp
    exact ⟨_, rfl, rfl, Below.refl _ _⟩
  · intro a W hb hs hun hdep
    have u1 := hun 1 (by decide +kernel)
    simp at u1
    obtain ⟨⟨a0, a1, a2, a3, a4⟩, a5, a6, a7, a8, a9⟩ := hs.1.d.ten
    have eg : _ = _ := hdep 2 23 (by decide +kernel) rfl
    have eg' := tmp_bool eg
    refine ⟨by simp [Region.wanted, yielded, eg'], ?_⟩
    unfold Oper.wp
    go_simp
    exact ⟨_, rfl, rfl, Below.refl _ _⟩
  · intro a W hb hs hun hdep
    have e1 : _ = _ := hdep 3 24 (by decide +kernel) rfl
    have e2 : _ = _ := hdep 4 25 (by decide +kernel) rfl
    have eg : _ = _ := hdep 2 23 (by decide +kernel) rfl
    have eg' := tmp_bool eg
    refine ⟨by simp [Region.wanted, yielded, eg'], ?_⟩
    unfold Oper.wp
    go_simp
    refine (told_any p p s3 s W hs.2.h hs.1.h).mono ?_
    rintro e W' ⟨rfl, hb'⟩
    exact ⟨_, rfl, by rw [decide_eq_true (sameP_refl p)]; rfl, hb'⟩
  · intro a W hb hs hun hdep
    have e1 : _ = _ := hdep 2 23 (by decide +kernel) rfl
    have e2 : _ = _ := hdep 5 26 (by decide +kernel) rfl
    refine ⟨rfl, ?_⟩
    unfold Oper.wp
    go_simp
    exact ⟨_, rfl, rfl, Below.refl _ _⟩
  · intro a W hb hs hun hdep
    have e1 : _ = _ := hdep 6 27 (by decide +kernel) rfl
    refine ⟨rfl, ?_⟩
    unfold Oper.wp
    go_simp
    exact ⟨_, rfl, rfl, Below.refl _ _⟩
  · intro a W hb hs hun hdep
    have u1 := hun 4 (by decide +kernel)
    simp at u1
    obtain ⟨⟨a0, a1, a2, a3, a4⟩, a5, a6, a7, a8, a9⟩ := hs.2.b.ten
    have eg : _ = _ := hdep 7 28 (by decide +kernel) rfl
    have eg' := tmp_bool eg
    refine ⟨by simp [Region.wanted, yielded, eg'], ?_⟩
    unfold Oper.wp
    go_simp
    exact ⟨_, rfl, rfl, Below.refl _ _⟩
  · intro a W hb hs hun hdep
    have u1 := hun 1 (by decide +kernel)
    simp at u1
    obtain ⟨⟨a0, a1, a2, a3, a4⟩, a5, a6, a7, a8, a9⟩ := hs.1.d.ten
    have eg : _ = _ := hdep 7 28 (by decide +kernel) rfl
    have eg' := tmp_bool eg
    refine ⟨by simp [Region.wanted, yielded, eg'], ?_⟩
    unfold Oper.wp
    go_simp
    exact ⟨_, rfl, rfl, Below.refl _ _⟩
  · intro a W hb hs hun hdep
    have e1 : _ = _ := hdep 9 30 (by decide +kernel) rfl
    have eg : _ = _ := hdep 7 28 (by decide +kernel) rfl
    have eg' := tmp_bool eg
    refine ⟨by simp [Region.wanted, yielded, eg'], ?_⟩
    unfold Oper.wp
    go_simp
    refine (of_any p s W hs.1.h HL.out).mono ?_
    rintro e W' ⟨s', rfl, hx, hb'⟩
    exact ⟨_, rfl, ⟨s', rfl, hx⟩, hb'⟩
  · intro a W hb hs hun hdep
    obtain ⟨s', e2, hx⟩ := hdep 10 31 (by decide +kernel) rfl
    have e1 : _ = _ := hdep 8 29 (by decide +kernel) rfl
    have eg : _ = _ := hdep 7 28 (by decide +kernel) rfl
    have eg' := tmp_bool eg
    refine ⟨by simp [Region.wanted, yielded, eg'], ?_⟩
    unfold Oper.wp
    go_simp
    refine (psame_any p p s3 s' W hs.2.h hx BP.out BP.out).mono ?_
    rintro e W' ⟨rfl, hb'⟩
    exact ⟨_, rfl, by rw [decide_eq_true (sameP_refl p)]; rfl, hb'⟩
  · intro a W hb hs hun hdep
    have e1 : _ = _ := hdep 7 28 (by decide +kernel) rfl
    have e2 : _ = _ := hdep 11 32 (by decide +kernel) rfl
    refine ⟨rfl, ?_⟩
    unfold Oper.wp
    go_simp
    exact ⟨_, rfl, rfl, Below.refl _ _⟩
  · intro a W hb hs hun hdep
    have e1 : _ = _ := hdep 12 33 (by decide +kernel) rfl
    refine ⟨rfl, ?_⟩
    unfold Oper.wp
    go_simp
    exact ⟨_, rfl, rfl, Below.refl _ _⟩
  · intro a W hb hs hun hdep
    have eg : _ = _ := hdep 13 34 (by decide +kernel) rfl
    have eg' := tmp_bool eg
    refine ⟨by simp [Region.wanted, yielded, eg'], ?_⟩
    unfold Oper.wp
    go_simp
    refine (awake07_any W (HT.out.later hs.1.bl)).mono ?_
    rintro e W' ⟨rfl, hb'⟩
    exact ⟨_, rfl, rfl, hb'⟩
  · intro a W hb hs hun hdep
    have e1 : _ = _ := hdep 13 34 (by decide +kernel) rfl
    have e2 : _ = _ := hdep 14 35 (by decide +kernel) rfl
    refine ⟨rfl, ?_⟩
    unfold Oper.wp
    go_simp
    exact ⟨_, rfl, rfl, Below.refl _ _⟩
  · intro a W hds hts hb hs hun hpr hne
    have e1 : _ = _ := hpr 15 36 (by decide) rfl
    have v1 : a.eval (.tmp 36) = .bool true := by show a.tmps.getD 36 undef = _; simpa using e1
    refine ⟨rfl, ?_⟩
    unfold Oper.wp execOp
    simp only [v1, Sem.run_bind, Result.andThen_ok, Sem.run_pure]
    simp only [Oper.upon, Act.put, wpTail, Exit.then]
    have hts' : a.tmps.size = 37 := by simpa using hts
    go_wp2_with fail
    refine bodyPost_ret (v := .bool true) (by simp [results, Tryd.results7, hts']) (by simpa using hds) ?_
    exact ⟨rfl, hs.1.bl⟩
theorem paramsBack_row (w : World) (ht : Tz w) {v : Value} (h : ParArg w v) : Calls Tryd.prog 7 #[v] w fun e w' => e = .returned (.bool true) ∧ Below w.heap.size w w' := by
  obtain ⟨p, s, rfl, h, bp⟩ := h
  exact paramsBack_walk w ht p s h bp
end Go.Proofs.YtbfgoojpbhlboaaDoor
