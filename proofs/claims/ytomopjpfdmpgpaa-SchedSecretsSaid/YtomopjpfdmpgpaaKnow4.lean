/- know: the closure that sets; made; opened (layer 3). No condition. -/
import Derived.Test.YtomopjpfdmpgpaaKnow3
import Derived.Test.YtomopjpfdmpgpaaCut
import Derived.StillTailTactics
set_option linter.unusedVariables false
set_option linter.unusedSimpArgs false
namespace Go.Proofs.Ytomopjpfdmpgpaa
open Go Go.RowKit

def setL (l : List Bool) (h : Int) : List Bool := if bget l h then l else bset l h
theorem setL_len (l : List Bool) (h : Int) : (setL l h).length = l.length := by unfold setL; split; rfl; exact bset_length l h
/-- A local bool. -/
def BoolAt (w : World) (g : Nat) (b : Bool) : Prop := w.heap[g]? = some (.cells #[.bool b] 4 (0, 0))
set_option maxHeartbeats 1600000 in
set_option maxRecDepth 100000 in
theorem set_any {B : Nat} (v : Value) (l : List Bool) (h : Int) (gc : Nat) (ch : Bool) (w : World) (hv : OwnB w B v l) (h0 : 0 ≤ h) (h1 : h < l.length) (hg : BoolAt w gc ch) (hne : v.ownBlock ≠ some gc) :
    Calls Try.prog 86 #[v, .int .i64 h, .pointer (some ⟨gc, 0, none⟩)] w fun e w' => e = .returned (.tuple #[]) ∧ OwnB w' B v (setL l h) ∧ BoolAt w' gc (ch || !bget l h) ∧ MFrm (fun k => v.ownBlock = some k ∨ k = gc) w w' ∧ w'.heap.size = w.heap.size := by
  obtain ⟨k, rfl⟩ : ∃ k : Nat, h = k := ⟨h.toNat, by omega⟩
  have hk : k < l.length := by omega
  obtain ⟨g, cap, rfl, hBg, hgs, hcp, hmx, hcell, hfree, hset⟩ := hv.form (by omega)
  have g1 := hcell k hk
  have f1 := hfree k
  have c1 : w.cell? ⟨gc, 0, none⟩ = some (.bool ch) := by rw [cell_of_row w _ 0 _ _ _ hg]; rfl
  have cf : w.frozen? ⟨gc, 0, none⟩ = false := by unfold BoolAt at hg; simp [World.frozen?, hg]
  have hgne : g ≠ gc := fun q => hne (by rw [q]; rfl)
  have HS := Lib.hid (hset k true hk)
  have HV := Lib.hid hv
  have HG := Lib.hid hg
  have HNE := Lib.hid hgne
  obtain ⟨b, hb⟩ : ∃ b, b = l.getD k false := ⟨_, rfl⟩
  have HBg : Hid (bget l (k : Int) = b) := by show _ = _; rw [hb]; unfold bget; rw [Int.toNat_natCast]
  rw [← hb] at g1
  have hki : (k : Int) < (l.length : Int) := by omega
  clear hcell hfree hset hv hg hne hb
  go_enter Try.func86, Try.ntmps86
  cases b with
  | true =>
    go_wp2_with fail
    go_end0
    refine ⟨rfl, ?_, ?_, .refl _ _, rfl⟩
    · unfold setL; rw [if_pos HBg.out]; exact HV.out
    · rw [HBg.out]; simpa using HG.out
  | false =>
    have hset : setL l (k : Int) = l.set k true := by unfold setL; rw [if_neg (by rw [HBg.out]; decide)]; unfold bset; rw [Int.toNat_natCast]
    have HSE := Lib.hid hset
    clear hset
    go_wp2_with fail
    go_end0
    refine ⟨rfl, ?_, ?_, ?_, ?_⟩
    · rw [HSE.out]
      exact HS.out.same fun q e => mblk_other _ _ (fun h => HNE.out (by simp [Value.ownBlock] at e; omega))
    · rw [HBg.out]
      have := mblk_set (i := 0) ((mblk_other w (i := k) (.bool true) (Ne.symm HNE.out)).trans HG.out) (.bool true)
      simpa [BoolAt] using this
    · exact (MFrm.set (S := fun i => (Value.slice (some ⟨g, 0, none⟩) l.length cap).ownBlock = some i ∨ i = gc) w ⟨g, k, none⟩ (.bool true) (.inl rfl)).trans (MFrm.set (S := fun i => i = gc) _ ⟨gc, 0, none⟩ (.bool true) rfl) fun i e => .inl (.inr e)
    · simp [World.setCell]
/-- l[s:] of terms: the walk's step. -/
theorem term_elem : Try.prog.elem 57 = 32 := by kernel_rfl
theorem term_slice : Try.prog.underlying 57 = some (.slice (Try.prog.elem 57)) := by rw [term_elem]; exact Try.underlying57
theorem term_sizeOf (w : World) : (Go.sizeOf (Try.prog.elem 57)).run Try.prog w = .ok 1 w := by
  obtain ⟨i, hi, hz0, hz1, hz2⟩ := info_parts info_term
  rw [term_elem]
  simp [sizeOf, typeInfo, hi, hz1]
theorem wp_cutT {B : Nat} {w : World} {ops : Array Oper} {rest : List Oper} {o : Oper} {a : Act} {Q : Exit → Act → World → Prop} (hgd : o.guard = none) (x lo : Operand) (ho : o.op = .slice 57 x (some lo) none none) {A : Option Addr} {n c : Nat} {xs : List Int} (hx : a.eval x = .slice A n c) {kl : IntKind} {S : Int} (hlo : a.eval lo = .int kl S) (s : Nat) (hS : S = s) (hs : s ≤ n) (hr : Rds B w .i64 A n c xs)
    (h : Rds B w .i64 (cutA A s c) (n - s) (c - s) (xs.drop s) → wpList Try.prog ops Q rest (a.put o.dst (.slice (cutA A s c) (n - s) (c - s))) w) : wpList Try.prog ops Q (o :: rest) a w := by
  subst hS
  refine wp_op hgd (v := .slice (cutA A s c) (n - s) (c - s)) ?_ (h (hr.cut hs))
  unfold execOp
  simp [ho, hx, hlo, run_sliceAt_slice (h := term_slice), run_slice_l (len := n) (cap := c) (a := A) (ht := term_slice) (kl := kl) (l := (s : Int)) (h0 := by omega) (h1 := by omega), term_sizeOf, Result.andThen, sliced, cutA]
/-- A row of bools that is only read. -/
theorem OwnB.at_ {w : World} {B : Nat} {v : Value} {l : List Bool} (h : OwnB w B v l) {p : Int} (h0 : 0 ≤ p) (h1 : p < l.length) : ∃ g cap, v = .slice (some ⟨g, 0, none⟩) l.length cap ∧ l.length ≤ cap ∧ w.cell? ⟨g, p.toNat, none⟩ = some (.bool (bget l p)) := by
  obtain ⟨g, cap, rfl, -, -, hc, -, hcell, -, -⟩ := h.form (by omega)
  exact ⟨g, cap, rfl, hc, hcell _ (by omega)⟩
def OpenedPost (l : List Int) (w : World) (e : Ending) (w' : World) : Prop := ∃ A c, e = .returned (.slice A l.length c) ∧ Rds 0 w' .i64 A l.length c l ∧ Below w.heap.size w w'
theorem OpenedPost.mk' {l : List Int} {w w' : World} {A : Option Addr} {n c : Nat} (h : Rds 0 w' .i64 A n c l) (hb : Below w.heap.size w w') : OpenedPost l w (.returned (.slice A n c)) w' := by
  have := h.len
  subst this
  exact ⟨A, c, rfl, h, hb⟩
set_option maxHeartbeats 1600000 in
set_option maxRecDepth 100000 in
theorem opened_any {B mb : Nat} {tp : Option Addr} {v1 v2 : Value} {F C : List Bool} {size : Nat} {fresh : Bool} (nd : Nd) (A : Option Addr) (c : Nat) (w : World) (hm : MindAt B w mb tp v1 v2 F C size fresh) (hr : Rds 0 w .i64 A nd.parts.length c nd.parts) (hk : nd.kind = 10 → nd.parts.length = 3 ∧ 1 ≤ nth nd.parts 0 ∧ nth nd.parts 0 < C.length) (h9 : nd.kind = 9 → nd.parts.length = 2) :
    Calls Try.prog 90 #[.pointer (some ⟨mb, 0, none⟩), .agg #[.int .i64 nd.kind, .string nd.text, .slice A nd.parts.length c]] w (OpenedPost (openedL C nd) w) := by
  obtain ⟨kd, tx, ps⟩ := nd
  simp only at hr hk h9 ⊢
  have hl : Hid (openedL C ⟨kd, tx, ps⟩ = if kd = 3 then ps else if kd = 9 then ps.drop 1 else if kd = 10 then (if bget C (nth ps 0) then ps.drop 2 else []) else []) := rfl
  obtain ⟨L, hL⟩ : ∃ L, L = openedL C ⟨kd, tx, ps⟩ := ⟨_, rfl⟩
  rw [← hL]
  have HL : Hid (L = if kd = 3 then ps else if kd = 9 then ps.drop 1 else if kd = 10 then (if bget C (nth ps 0) then ps.drop 2 else []) else []) := hL.trans hl.out
  obtain ⟨W, hW⟩ : ∃ W, W = w.alloc (.cells #[.int .i64 kd, .string tx, .slice A ps.length c] 85) := ⟨_, rfl⟩
  have HB : Hid (Below w.heap.size w W) := by rw [hW]; exact below_new _
  have HR := Lib.hid (hr.below HB.out)
  have HM := Lib.hid (hm.below HB.out)
  have n2 : W.cell? ⟨w.heap.size, 2, none⟩ = some (.slice A ps.length c) := by rw [hW]; simp [go_sem]
  have hcap := hr.cap
  clear hl hL hr hm
  go_enter Try.func90, Try.ntmps90
  by_cases k3 : kd = 3
  · have HN : Hid (L = ps) := by show _ = _; rw [HL.out, if_pos k3]
    have hb : (kd == 3) = true := by simp [k3]
    clear k3 hk h9
    go_wp2_with fail
    rw [← hW]
    go_ret
    rw [HN.out]
    exact OpenedPost.mk' HR.out HB.out
  have hb3 : (kd == 3) = false := by simp [k3]
  by_cases k9 : kd = 9
  · have HN : Hid (L = ps.drop 1) := by show _ = _; rw [HL.out, if_neg k3, if_pos k9]
    have hb : (kd == 9) = true := by simp [k9]
    have hp : 1 ≤ ps.length := by have := h9 k9; omega
    rw [hW] at HR
    clear k3 k9 hk h9
    go_wp2_with ((with_reducible show wpList _ _ _ (Oper.mk _ (Op.slice _ _ _ _ _) _ _ _ _ :: _) _ _); refine wp_cutT rfl _ _ rfl rfl rfl 1 rfl (by omega) HR.out ?_; intro hr2; have HR2 := Lib.hid hr2; clear hr2)
    rw [← hW] at HR2 ⊢
    go_ret
    rw [HN.out]
    exact OpenedPost.mk' HR2.out HB.out
  have hb9 : (kd == 9) = false := by simp [k9]
  by_cases k10 : kd = 10
  rotate_left
  · have HN : Hid (L = []) := by show _ = _; rw [HL.out, if_neg k3, if_neg k9, if_neg k10]
    have hb : (kd == 10) = false := by simp [k10]
    clear k3 k9 k10 hk h9
    go_wp2_with fail
    rw [← hW]
    go_ret
    rw [HN.out]
    exact OpenedPost.mk' (Rds.nil _ _ _) HB.out
  have hb10 : (kd == 10) = true := by simp [k10]
  obtain ⟨hp', hq0, hq1⟩ := hk k10
  have hp : 3 ≤ ps.length := by omega
  clear hp'
  obtain ⟨g, cap, e2, hgc, q1⟩ := HM.out.c.at_ (p := nth ps 0) (by omega) hq1
  obtain ⟨bA, oA, rfl, hcx⟩ := RdI.at_ HR.out.cell (by omega)
  have a0 := hcx 0 (by omega)
  rw [Nat.add_zero] at a0
  obtain ⟨p0, hp0⟩ : ∃ p : Nat, nth ps 0 = p := ⟨(nth ps 0).toNat, by omega⟩
  rw [hp0] at a0 q1
  rw [Int.toNat_natCast] at q1
  obtain ⟨b, hb⟩ : ∃ b, b = bget C (p0 : Int) := ⟨_, rfl⟩
  rw [← hb] at q1
  have HN : Hid (L = if b then ps.drop 2 else []) := by show _ = _; rw [HL.out, if_neg k3, if_neg k9, if_pos k10, hp0, ← hb]
  obtain ⟨-, -, m2, -, -⟩ := HM.out.cells
  rw [e2] at m2
  have hp0l : (p0 : Int) < (C.length : Int) := by omega
  have hpl : (0 : Int) < (ps.length : Int) := by omega
  clear k3 k9 k10 hk h9 hcx hb hp0 hq0 hq1 e2 HL
  go_wp2_with fail
  rw [← hW]
  clear hW
  go_region
  cases b with
  | true =>
    have HRd := Lib.hid (HR.out.drewN 1)
    go_wp2_with ((with_reducible show wpList _ _ _ (Oper.mk _ (Op.slice _ _ _ _ _) _ _ _ _ :: _) _ _); refine wp_cutT rfl _ _ rfl rfl rfl 2 rfl (by omega) HRd.out ?_; intro hr2; have HR2 := Lib.hid hr2; clear hr2)
    go_ret
    rw [HN.out]
    exact OpenedPost.mk' HR2.out (HB.out.drew)
  | false =>
    go_wp2_with fail
    go_ret
    rw [HN.out]
    exact OpenedPost.mk' (Rds.nil _ _ _) HB.out.drew

set_option maxHeartbeats 6400000 in
set_option maxRecDepth 100000 in
theorem made_any {B Bp mb : Nat} {tp : Option Addr} {v1 v2 vp : Value} {F C pub : List Bool} {size : Nat} {fresh : Bool} {T : List Nd} (h : Int) (nd : Nd) (A : Option Addr) (c : Nat) (w : World) (hw : WfT T) (hg : getT T h = some nd) (hm : MindAt B w mb tp v1 v2 F C size fresh) (hF : F.length = T.length + 1) (hC : C.length = T.length + 1) (hp : OwnB w Bp vp pub) (hP : pub.length = T.length + 1) (hr : Rds 0 w .i64 A nd.parts.length c nd.parts) :
    Calls Try.prog 89 #[.pointer (some ⟨mb, 0, none⟩), .int .i64 h, .agg #[.int .i64 nd.kind, .string nd.text, .slice A nd.parts.length c], vp] w fun e w' => e = .returned (.bool (madeB F C pub h nd)) ∧ Below w.heap.size w w' := by
  have hrg := getT_range hg
  have hT := hw.len
  have hgood := hw.get hg
  obtain ⟨W, hW⟩ : ∃ W, W = w.alloc (.cells #[.int .i64 nd.kind, .string nd.text, .slice A nd.parts.length c] 85) := ⟨_, rfl⟩
  have HB : Hid (Below w.heap.size w W) := by rw [hW]; exact below_new _
  have HR := Lib.hid (hr.below HB.out)
  have HM := Lib.hid (hm.below HB.out)
  have HP := Lib.hid (hp.below HB.out)
  obtain ⟨r, hrr⟩ : ∃ r, r = madeB F C pub h nd := ⟨_, rfl⟩
  rw [← hrr]
  have HRR : Hid (r = if bget F h = true ∨ nd.kind = 1 then true else if nd.kind = 2 then false else if nd.kind = 8 then (bget C (nth nd.parts 0) && (bget C (nth nd.parts 1) || bget pub (nth nd.parts 1))) || (bget C (nth nd.parts 1) && bget pub (nth nd.parts 0)) else nd.parts.all (bget C)) := hrr
  obtain ⟨h', rfl⟩ : ∃ n : Nat, h = n := ⟨h.toNat, by omega⟩
  obtain ⟨gF, capF, eF, hcF, qF⟩ := HM.out.f.at_ (p := (h' : Int)) (by omega) (by omega)
  rw [Int.toNat_natCast] at qF
  obtain ⟨bF, hbF⟩ : ∃ b, b = bget F (h' : Int) := ⟨_, rfl⟩
  rw [← hbF] at qF
  have HBF := Lib.hid hbF
  obtain ⟨-, m1, m2, -, -⟩ := HM.out.cells
  rw [eF] at m1
  have hFl : (h' : Int) < (F.length : Int) := by omega
  have n0 : W.cell? ⟨w.heap.size, 0, none⟩ = some (.int .i64 nd.kind) := by rw [hW]; simp [go_sem]
  have n2 : W.cell? ⟨w.heap.size, 2, none⟩ = some (.slice A nd.parts.length c) := by rw [hW]; simp [go_sem]
  obtain ⟨kd, tx, ps⟩ := nd
  simp only at n0 n2 HRR HR hgood hW hr ⊢
  have HGd := Lib.hid hgood
  clear hrr hr hm hp hbF hgood eF
  go_enter Try.func89, Try.ntmps89
  cases bF with
  | true =>
    have HN : Hid (r = true) := by show _ = _; rw [HRR.out, if_pos (.inl HBF.out.symm)]
    rw [hW] at m1 qF
    go_wp2_with fail
    rw [← hW]
    go_ret
    exact ⟨by rw [HN.out]; rfl, HB.out⟩
  | false =>
    have nF : ¬ (bget F (h' : Int) = true) := by rw [← HBF.out]; decide
    rw [hW] at m1 m2 qF n0 n2
    by_cases k1 : kd = 1
    · have HN : Hid (r = true) := by show _ = _; rw [HRR.out, if_pos (.inr k1)]
      have hb : (kd == 1) = true := by simp [k1]
      clear k1 nF
      go_wp2_with fail
      rw [← hW]
      go_ret
      exact ⟨by rw [HN.out]; rfl, HB.out⟩
    have hb1 : (kd == 1) = false := by simp [k1]
    by_cases k2 : kd = 2
    · have HN : Hid (r = false) := by show _ = _; rw [HRR.out, if_neg (by rintro (q | q); exact nF q; exact k1 q), if_pos k2]
      have hb : (kd == 2) = true := by simp [k2]
      clear k1 k2 nF
      go_wp2_with fail
      rw [← hW]
      go_ret
      exact ⟨by rw [HN.out]; rfl, HB.out⟩
    have hb2 : (kd == 2) = false := by simp [k2]
    by_cases k8 : kd = 8
    · have hps := (HGd.out.k8 k8).1
      simp only at hps
      have r0 := nth_range hw hg (i := 0) (by show 0 < ps.length; omega)
      have r1 := nth_range hw hg (i := 1) (by show 1 < ps.length; omega)
      simp only at r0 r1
      have HN : Hid (r = ((bget C (nth ps 0) && (bget C (nth ps 1) || bget pub (nth ps 1))) || (bget C (nth ps 1) && bget pub (nth ps 0)))) := by
        show _ = _; rw [HRR.out, if_neg (by rintro (q | q); exact nF q; exact k1 q), if_neg k2, if_pos k8]
      obtain ⟨x, hx⟩ : ∃ n : Nat, nth ps 0 = n := ⟨(nth ps 0).toNat, by omega⟩
      obtain ⟨y, hy⟩ : ∃ n : Nat, nth ps 1 = n := ⟨(nth ps 1).toNat, by omega⟩
      rw [hx, hy] at HN
      rw [hx] at r0
      rw [hy] at r1
      obtain ⟨gC, capC, eC, hcC, qx⟩ := HM.out.c.at_ (p := (x : Int)) (by omega) (by omega)
      obtain ⟨gC', capC', eC', -, qy⟩ := HM.out.c.at_ (p := (y : Int)) (by omega) (by omega)
      rw [eC] at eC'
      simp only [Value.slice.injEq, Option.some.injEq, Addr.mk.injEq, and_true, true_and] at eC'
      obtain ⟨rfl, rfl⟩ := eC'
      obtain ⟨gP, capP, eP, hcP, ux⟩ := HP.out.at_ (p := (x : Int)) (by omega) (by omega)
      obtain ⟨gP', capP', eP', -, uy⟩ := HP.out.at_ (p := (y : Int)) (by omega) (by omega)
      rw [eP] at eP'
      simp only [Value.slice.injEq, Option.some.injEq, Addr.mk.injEq, and_true, true_and] at eP'
      obtain ⟨rfl, rfl⟩ := eP'
      rw [Int.toNat_natCast] at qx qy ux uy
      obtain ⟨cx, hcx⟩ : ∃ b, b = bget C (x : Int) := ⟨_, rfl⟩
      obtain ⟨cy, hcy⟩ : ∃ b, b = bget C (y : Int) := ⟨_, rfl⟩
      obtain ⟨px, hpx⟩ : ∃ b, b = bget pub (x : Int) := ⟨_, rfl⟩
      obtain ⟨py, hpy⟩ : ∃ b, b = bget pub (y : Int) := ⟨_, rfl⟩
      rw [← hcx] at qx HN
      rw [← hcy] at qy HN
      rw [← hpx] at ux HN
      rw [← hpy] at uy HN
      obtain ⟨bA, oA, rfl, hcl⟩ := RdI.at_ HR.out.cell (by omega)
      have a0 := hcl 0 (by omega)
      have a1 := hcl 1 (by omega)
      rw [hx, Nat.add_zero] at a0
      rw [hy] at a1
      rw [eC] at m2
      have xl : (x : Int) < (C.length : Int) := by omega
      have yl : (y : Int) < (C.length : Int) := by omega
      have xp : (x : Int) < (pub.length : Int) := by omega
      have yp : (y : Int) < (pub.length : Int) := by omega
      have pl : (0 : Int) < (ps.length : Int) := by omega
      have pl1 : (1 : Int) < (ps.length : Int) := by omega
      have hb8 : (kd == 8) = true := by simp [k8]
      subst eP
      clear k1 k2 k8 nF hps r0 r1 hx hy eC hcx hcy hpx hpy hcl
      go_wp2_with fail
      rw [← hW] at m2 n2 ⊢
      clear hW m1 qF n0
      go_region
      have HBd : Hid (Below w.heap.size w W.drew) := HB.out.drew
      cases cx <;> cases cy <;> cases px <;> cases py
      all_goals
        go_wp2_with fail
        go_ret
        exact ⟨by rw [HN.out]; rfl, HBd.out⟩
    · have hb8 : (kd == 8) = false := by simp [k8]
      have HN : Hid (r = ps.all (bget C)) := by
        show _ = _; rw [HRR.out, if_neg (by rintro (q | q); exact nF q; exact k1 q), if_neg k2, if_neg k8]
      have hrng : ∀ i, i < ps.length → 1 ≤ nth ps i ∧ nth ps i ≤ T.length := fun i hi => nth_range hw hg (n := ⟨kd, tx, ps⟩) (i := i) hi
      have HRng := Lib.hid hrng
      have HPm : Hid (ps.length ≤ 16) := HGd.out.many
      have hpm := HPm.out
      obtain ⟨A2, c2, e2⟩ := HM.out.c.slice
      rw [e2] at m2
      have hpz : (0 : Int) ≤ (ps.length : Int) := by omega
      clear k1 k2 k8 nF hrng
      go_wp2_with fail
      rw [← hW] at m2 n2 ⊢
      clear hW m1 qF n0
      go_loop [80] (fun i => ∃ k : Nat, k ≤ ps.length ∧ i = .int .i64 k ∧ Hid (∀ j, j < k → bget C (nth ps j) = true)) (fun i => ps.length - (intOf i).toNat)
      case atStart => exact ⟨0, Nat.zero_le _, rfl, fun j hj => by omega⟩
      case round =>
        obtain ⟨k, hk, rfl, hq⟩ := hrel
        by_cases hlt : k < ps.length
        · obtain ⟨bA, oA, rfl, hcl⟩ := RdI.at_ HR.out.cell (by omega)
          have a0 := hcl k (by omega)
          have hr := HRng.out k hlt
          obtain ⟨x, hx⟩ : ∃ n : Nat, nth ps k = n := ⟨(nth ps k).toNat, by omega⟩
          rw [hx] at a0 hr
          obtain ⟨gC, capC, eC, hcC, qx⟩ := HM.out.c.at_ (p := (x : Int)) (by omega) (by omega)
          rw [e2] at eC
          simp only [Value.slice.injEq] at eC
          obtain ⟨rfl, -, rfl⟩ := eC
          rw [Int.toNat_natCast] at qx
          obtain ⟨cx, hcx⟩ : ∃ b, b = bget C (x : Int) := ⟨_, rfl⟩
          rw [← hcx] at qx
          have xl : (x : Int) < (C.length : Int) := by omega
          have HX := Lib.hid hx
          have HCX := Lib.hid hcx
          clear hcl hx hcx
          cases cx with
          | true =>
            go_wp2_with fail
            go_round
            case rel => exact ⟨k + 1, by omega, by go_num, Lib.hid fun j hj => by
              rcases Nat.lt_or_ge j k with q | q
              · exact hq.out j q
              · obtain rfl : j = k := by omega
                rw [HX.out]; exact HCX.out.symm⟩
            case measure => simp [intOf]; omega
          | false =>
            have hf : ps.all (bget C) = false := by
              rw [List.all_eq_false]
              exact ⟨nth ps k, nth_mem hlt, by rw [HX.out, ← HCX.out]; decide⟩
            have HFf := Lib.hid hf
            clear hf
            go_wp2_with fail
            go_ret
            exact ⟨by rw [HN.out, HFf.out]; rfl, HB.out⟩
        · have hf : ps.all (bget C) = true := by
            rw [List.all_eq_true]
            intro p hp
            obtain ⟨j, hj, rfl⟩ := List.getElem_of_mem hp
            have := hq.out j (by omega)
            rwa [show nth ps j = ps[j] from Option.some.inj ((nth_lt hj).symm.trans (List.getElem?_eq_getElem hj))] at this
          have HFf := Lib.hid hf
          obtain rfl : k = ps.length := by omega
          clear hf
          go_wp2_with fail
          go_ret
          exact ⟨by rw [HN.out, HFf.out]; rfl, HB.out⟩
end Go.Proofs.Ytomopjpfdmpgpaa
