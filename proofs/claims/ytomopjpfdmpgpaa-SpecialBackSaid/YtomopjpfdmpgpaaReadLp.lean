/- The program's layer 8: ReadList. No condition. -/
import Derived.Test.YtomopjpfdmpgpaaChunk
import Derived.Test.YtomopjpfdmpgpaaTab
import Derived.Test.YtomopjpfdmpgpaaReadRp
set_option linter.unusedVariables false
set_option linter.unusedSimpArgs false
namespace Go.Proofs.Ytomopjpfdmpgpaa
open Go Go.RowKit
attribute [local go_sem] Oper.semAt_some

/-- The two cells of the results. -/
def RC (W : World) (g : Nat) (v0 v1 v2 : Value) (e : Int) : Prop := W.heap[g]? = some (.cells #[v0, v1, v2] 25 (0, 0)) ∧ W.heap[g + 1]? = some (.cells #[.int .i64 e] 26 (0, 0))
theorem RC.cells {W : World} {g : Nat} {v0 v1 v2 : Value} {e : Int} (h : RC W g v0 v1 v2 e) : W.cell? ⟨g, 0, none⟩ = some v0 ∧ W.cell? ⟨g, 1, none⟩ = some v1 ∧ W.cell? ⟨g, 2, none⟩ = some v2 ∧ W.cell? ⟨g + 1, 0, none⟩ = some (.int .i64 e) ∧ (∀ i, W.frozen? ⟨g, i, none⟩ = false) ∧ ∀ i, W.frozen? ⟨g + 1, i, none⟩ = false := by
  refine ⟨?_, ?_, ?_, ?_, fun i => frozen_of_row W g i _ _ h.1, fun i => frozen_of_row W (g + 1) i _ _ h.2⟩
  · rw [cell_of_row W g 0 _ _ _ h.1]; rfl
  · rw [cell_of_row W g 1 _ _ _ h.1]; rfl
  · rw [cell_of_row W g 2 _ _ _ h.1]; rfl
  · rw [cell_of_row W (g + 1) 0 _ _ _ h.2]; rfl
theorem RC.below {W W' : World} {g : Nat} {v0 v1 v2 : Value} {e : Int} (h : RC W g v0 v1 v2 e) (hb : Below W.heap.size W W') : RC W' g v0 v1 v2 e :=
  ⟨(hb.block _ (lt_of_get h.1)).trans h.1, (hb.block _ (lt_of_get h.2)).trans h.2⟩
/-- The list's block while its numbers grow, its numbers' row above the iterator's boxes. -/
def LB (W : World) (g : Nat) (V1 V2 : Value) (vs : List Int) : Prop := ∃ v, W.heap[g]? = some (.cells #[V1, V2, v] 25 (0, 0)) ∧ OwnI W (g + 3) .i64 v vs
/-- What stands between two rounds. -/
structure LI (w1 : World) (g0 g D : Nat) (A1 A2 A3 : Option Addr) (n1 c1 n2 c2 m c3 : Nat) (rs : List Int) (k : Nat) (W : World) : Prop where
  rc : RC W g0 (.slice none 0 0) (.slice none 0 0) (.slice none 0 0) 0
  la : LB W g (.slice A1 n1 c1) (.slice A2 n2 c2) (quadsN rs k)
  b0 : W.heap[g + 1]? = some (.cells #[.slice A3 m c3] 22 (0, 0))
  b1 : W.heap[g + 1 + 1]? = some (.cells #[.int .i64 4] 3 (0, 0))
  r3 : Rds D W .u8 A3 m c3 rs
  bl : Below g w1 W
  nz : ∀ j, j < k → quad rs j ≠ 0
theorem lp8_sp : ∀ o, lpO o = true → spO o = true := by
  intro o h
  unfold lpO at h
  split at h <;> first | rfl | cases h
theorem rds8_lp {B : Nat} {w w' : World} {k : IntKind} {A : Option Addr} {n c : Nat} {xs : List Int} (h : Rds B w k A n c xs) {B' : Nat} (hf : Frm lpO B' w w') (hB : B ≤ B') : Rds B w' k A n c xs := h.frm ((hf.weak hB).mono lp8_sp)
theorem cells8_lp {w w' : World} {B g : Nat} {cs : Array Value} {t : TypeId} {fr : Nat × Nat} (h : w.heap[g]? = some (.cells cs t fr)) (hf : Frm lpO B w w') : w'.heap[g]? = some (.cells cs t fr) := hf.block _ _ h (.inr rfl)
theorem LI.lp {w1 : World} {g0 g D : Nat} {A1 A2 A3 : Option Addr} {n1 c1 n2 c2 m c3 : Nat} {rs : List Int} {k : Nat} {W W' : World} (h : LI w1 g0 g D A1 A2 A3 n1 c1 n2 c2 m c3 rs k W) {E : Nat} (hf : Frm lpO E W W') (hD : D ≤ E) (hg : g ≤ E) (hgs : g ≤ w1.heap.size) : LI w1 g0 g D A1 A2 A3 n1 c1 n2 c2 m c3 rs k W' := by
  obtain ⟨v, hv, ho⟩ := h.la
  exact ⟨⟨cells8_lp h.rc.1 hf, cells8_lp h.rc.2 hf⟩, ⟨v, cells8_lp hv hf, ho.frm (hf.mono lp8_sp)⟩, cells8_lp h.b0 hf, cells8_lp h.b1 hf, rds8_lp h.r3 hf hD, h.bl.trans ((hf.weak hg).below (Nat.le_trans hgs h.bl.size)), h.nz⟩
/-- What a round starts with. -/
def cAx (D : Nat) (rs : List Int) (f : Value → Array Value) (k : Nat) (x : Option Addr) (a : Act) (W : World) : Prop := Rds D W .u8 x 4 4 (cutL rs (4 * k) 4) ∧ a = { tmps := f (.slice x 4 4), defers := [] }
/-- Both result cells are written, field by field. -/
theorem RC.put {W : World} {g : Nat} {v0 v1 v2 : Value} {e : Int} (h : RC W g v0 v1 v2 e) (u0 u1 u2 : Value) (e' : Int) : RC ((((W.setCell ⟨g, 0, none⟩ u0).setCell ⟨g, 1, none⟩ u1).setCell ⟨g, 2, none⟩ u2).setCell ⟨g + 1, 0, none⟩ (.int .i64 e')) g u0 u1 u2 e' := by
  obtain ⟨h1, h2⟩ := h
  have a0 := in_set h1 u0 (i := 0)
  have a1 := in_set a0 u1 (i := 1)
  have a2 := in_set a1 u2 (i := 2)
  have b0 : ((((W.setCell ⟨g, 0, none⟩ u0).setCell ⟨g, 1, none⟩ u1).setCell ⟨g, 2, none⟩ u2)).heap[g + 1]? = some (.cells #[.int .i64 e] 26 (0, 0)) := by
    rw [in_other _ _ (Nat.succ_ne_self g), in_other _ _ (Nat.succ_ne_self g), in_other _ _ (Nat.succ_ne_self g)]; exact h2
  exact ⟨(in_other _ _ (Nat.succ_ne_self g).symm).trans a2, in_set b0 _⟩
theorem RC.bl {W w : World} {g : Nat} {B : Nat} (hb : Below B w W) (hB : B ≤ g) (u0 u1 u2 : Value) (e' : Int) : Below B w ((((W.setCell ⟨g, 0, none⟩ u0).setCell ⟨g, 1, none⟩ u1).setCell ⟨g, 2, none⟩ u2).setCell ⟨g + 1, 0, none⟩ (.int .i64 e')) :=
  Below.setCell (Below.setCell (Below.setCell (Below.setCell hb (show B ≤ g from hB) _) (show B ≤ g from hB) _) (show B ≤ g from hB) _) (show B ≤ g + 1 from Nat.le_succ_of_le hB) _
/-- append within a fence, by its run. -/
theorem wpIn_app_run8 {F : Fence} {n : Nat} {P : Program} {w w' : World} {ops : Array Oper} {rest : List Oper} {o : Oper} {a : Act} {Q : Exit → Act → World → Prop} (hg : o.guard = none) (s x : Operand) (t : Nat)
    (ho : o.op = .call { callee := .builtin .append, args := #[s, x], argTypes := #[t, t] }) {v v' : Value} {A : Option Addr} {m c : Nat} (hv : a.eval s = v) (hx : a.eval x = .slice A m c) (hrun : (Builtin.append_ #[t, t] o.type #[v, .slice A m c]).run P w = .ok v' w')
    (h : wpListIn F n P ops Q rest (a.put o.dst v') w') : wpListIn F n P ops Q (o :: rest) a w := by
  refine wpListIn_plain hg fun K hK' => ?_
  unfold Oper.wpIn
  refine ⟨?_, ?_⟩
  · simp [Oper.about, ho, resolve, Target.leads, Sem.run_pure]
  · rw [Oper.semAt_plain F _ _ (by rw [ho]; intro c hc'; cases hc')]
    simp [execOp, ho, resolve, invoke, builtin, hv, hx, hrun, Result.andThen]
    exact hK' _ _ h
/-- append in a region that draws, by its run. -/
theorem step_app8 {F : Fence} {n : Nat} {P : Program} {w w' : World} {o : Oper} {a : Act} {Q : Exit → Act → World → Prop} {K : Act → World → Prop} {R : Prop} {ys : Nat → Option Bool} (hg : Region.wanted o ys = true) (s x : Operand) (t : Nat)
    (ho : o.op = .call { callee := .builtin .append, args := #[s, x], argTypes := #[t, t] }) {v v' : Value} {A : Option Addr} {m c : Nat} (hv : a.eval s = v) (hx : a.eval x = .slice A m c) (hrun : (Builtin.append_ #[t, t] o.type #[v, .slice A m c]).run P w = .ok v' w')
    (h : K (a.put o.dst v') w') : if Region.wanted o ys = true then Oper.wpIn F n P o a w K Q else R := by
  rw [if_pos hg]
  unfold Oper.wpIn
  refine ⟨?_, ?_⟩
  · simp [Oper.about, ho, resolve, Target.leads, Sem.run_pure]
  · rw [Oper.semAt_plain F _ _ (by rw [ho]; intro c hc'; cases hc')]
    simp [execOp, ho, resolve, invoke, builtin, hv, hx, hrun, Result.andThen]
    exact h
def onlyEnd8 (R : Act → World → Prop) : Exit → Act → World → Prop
  | .normal, a, w => R a w
  | _, _, _ => False
def Keep8 (W W' : World) : Prop := ∀ (k : Nat) (o : Obj), W.heap[k]? = some o → lpO o = true → W'.heap[k]? = some o
theorem Keep8.trans {a b c : World} (h : Keep8 a b) (k : Keep8 b c) : Keep8 a c := fun i o hi hl => k i o (h i o hi hl) hl
theorem Keep8.of_below {a b : World} (h : Below a.heap.size a b) : Keep8 a b := fun i o hi _ => (h.block i (lt_of_get hi)).trans hi
theorem Keep8.set {w : World} {g i : Nat} {cs : Array Value} {t : TypeId} {fr : Nat × Nat} (h : w.heap[g]? = some (.cells cs t fr)) (v : Value) : Keep8 w (w.setCell ⟨g, i, none⟩ v) := fun q o hq hl => by
  by_cases e : q = g
  · subst e
    rw [h] at hq; cases hq; cases hl
  · exact (in_other _ _ e).trans hq
theorem Keep8.of_app {w w' : World} {B : Nat} {k : IntKind} {v : Value} {xs : List Int} (ho : OwnI w B k v xs) (h : w.grownBy w' v.ownBlock) : Keep8 w w' := fun i o hi hl => by
  refine (h.block i (lt_of_get hi) fun e => ?_).trans hi
  rcases ho with ⟨_, hv⟩ | ⟨g', cap, cur, T, rfl, _, hg, _⟩
  · rw [hv] at e; cases e
  · simp [Value.ownBlock] at e
    subst e
    rw [hi] at hg; cases hg; cases hl
theorem RC.keep {W : World} {g : Nat} {v0 v1 v2 : Value} {e : Int} (h : RC W g v0 v1 v2 e) (u0 u1 u2 : Value) (e' : Int) : Keep8 W ((((W.setCell ⟨g, 0, none⟩ u0).setCell ⟨g, 1, none⟩ u1).setCell ⟨g, 2, none⟩ u2).setCell ⟨g + 1, 0, none⟩ (.int .i64 e')) := by
  have a0 := in_set h.1 u0 (i := 0)
  have a1 := in_set a0 u1 (i := 1)
  have b0 : ((((W.setCell ⟨g, 0, none⟩ u0).setCell ⟨g, 1, none⟩ u1).setCell ⟨g, 2, none⟩ u2)).heap[g + 1]? = some (.cells #[.int .i64 e] 26 (0, 0)) := by
    rw [in_other _ _ (Nat.succ_ne_self g), in_other _ _ (Nat.succ_ne_self g), in_other _ _ (Nat.succ_ne_self g)]; exact h.2
  exact (((Keep8.set h.1 u0).trans (Keep8.set a0 u1)).trans (Keep8.set a1 u2)).trans (Keep8.set b0 _)
/-- What a round's append leaves. -/
theorem LI.app {w1 : World} {g0 g D : Nat} {A1 A2 A3 : Option Addr} {n1 c1 n2 c2 m c3 : Nat} {rs : List Int} {k : Nat} {W : World} (h : LI w1 g0 g D A1 A2 A3 n1 c1 n2 c2 m c3 rs k W) {A4 : Option Addr} {c4 : Nat} (hvg : W.heap[g]? = some (.cells #[.slice A1 n1 c1, .slice A2 n2 c2, .slice A4 k c4] 25 (0, 0))) (hvo : OwnI W (g + 3) .i64 (.slice A4 k c4) (quadsN rs k))
    (hk : k ≤ 100) (hz : quad rs k ≠ 0) (hg0 : g0 + 1 < g) (hgw : g = w1.heap.size) (hD : D ≤ g) (hr3 : ∀ a, 0 < m → A3 = some a → a.block < g) (w4 : World) (hb : Below W.heap.size W w4) :
    ∃ A5 c5 U, (Builtin.append_ #[23, 23] 23 #[.slice A4 k c4, .slice (some ⟨w4.heap.size, 0, none⟩) 1 1]).run Try.prog (w4.alloc (.cells #[.int .i64 (quad rs k)] 3)) = .ok (.slice A5 (k + 1) c5) U ∧ U.frozen? ⟨g, 2, none⟩ = false ∧ U.cell? ⟨g, 2, none⟩ = some (.slice A4 k c4) ∧
      Keep8 W (U.setCell ⟨g, 2, none⟩ (.slice A5 (k + 1) c5)) ∧ LI w1 g0 g D A1 A2 A3 n1 c1 n2 c2 m c3 rs (k + 1) (U.setCell ⟨g, 2, none⟩ (.slice A5 (k + 1) c5)) := by
  obtain ⟨i, hi, hz0, hz1, hz2⟩ := info_parts info_int
  have hbn : Below w4.heap.size w4 (w4.alloc (.cells #[.int .i64 (quad rs k)] 3)) := below_new _
  have hb2 : Below W.heap.size W (w4.alloc (.cells #[.int .i64 (quad rs k)] 3)) := hb.trans (hbn.mono hb.size)
  have ho2 := hvo.below hb2
  have hgl := lt_of_get h.b1
  obtain ⟨v', U, hrun, q1, q2, q3⟩ := run_app (P := Try.prog) (w := w4.alloc (.cells #[.int .i64 (quad rs k)] 3)) 23 23 3 i (.int .i64 0) .i64 8 Try.underlying23 hi hz0 hz1 hz2 rfl sp_int ho2 (A := some ⟨w4.heap.size, 0, none⟩) (c := 1) (m := 1) (RdI.one w4 .i64 (quad rs k) _) rfl (by have := hb2.size; simp at this ⊢; omega) (by rw [quadsN_len]; omega) (by rw [quadsN_len]; omega)
  rw [← quadsN_succ] at q1
  obtain ⟨A5, c5, rfl⟩ := q1.slice
  rw [quadsN_len] at q1 hrun
  have hu : U.heap[g]? = some (.cells #[.slice A1 n1 c1, .slice A2 n2 c2, .slice A4 k c4] 25 (0, 0)) := (q3.block _ (by omega)).trans ((hb2.block _ (lt_of_get hvg)).trans hvg)
  have k1 : Keep8 W U := (Keep8.of_below hb2).trans (Keep8.of_app ho2 q2)
  have k2 : Keep8 W (U.setCell ⟨g, 2, none⟩ (.slice A5 (k + 1) c5)) := k1.trans (Keep8.set hu _)
  have e3 : ∀ q, q < g → ((U.setCell ⟨g, 2, none⟩ (.slice A5 (k + 1) c5))).heap[q]? = W.heap[q]? := fun q hq => by
    rw [in_other _ _ (by omega), q3.block _ (by omega), hb2.block _ (by omega)]
  have bl : Below g W (U.setCell ⟨g, 2, none⟩ (.slice A5 (k + 1) c5)) := by
    have h1 : Below g W U := (hb2.mono (by omega)).trans (q3.mono (by omega))
    exact h1.setCell (show g ≤ g from Nat.le_refl g) _
  refine ⟨A5, c5, U, hrun, frozen_of_row U g 2 _ _ hu, by rw [cell_of_row U g 2 _ _ _ hu]; rfl, k2, ?_⟩
  refine ⟨⟨(e3 _ (by omega)).trans h.rc.1, (e3 _ (by omega)).trans h.rc.2⟩, ⟨.slice A5 (k + 1) c5, ?_, q1.setBelow (show g < g + 3 by omega) _⟩, ?_, ?_, ?_, ?_, ?_⟩
  · have := in_set hu (.slice A5 (k + 1) c5) (i := 2)
    simpa using this
  · rw [in_other _ _ (by omega), q3.block _ (by omega), hb2.block _ (by omega)]; exact h.b0
  · rw [in_other _ _ (by omega), q3.block _ (by omega), hb2.block _ (by omega)]; exact h.b1
  · refine ⟨h.r3.len, h.r3.cap, h.r3.max, fun j hj => ?_, fun p a e => ?_⟩
    · obtain ⟨ad, e, hc⟩ := h.r3.cell j hj
      refine ⟨ad, e, ?_⟩
      rw [← hc]
      exact World.cell?_of_block (by rw [add_block]; exact e3 _ (hr3 ad (by have := h.r3.len; omega) e))
    · have hk := h.r3.safe p a e
      have hlt := hr3 a p e
      refine ⟨Nat.lt_of_lt_of_le hk.1 bl.size, hk.2.imp id ?_⟩
      rintro ⟨cs', t, fr, q1, q2⟩
      exact ⟨cs', t, fr, (e3 _ hlt).trans q1, q2⟩
  · exact h.bl.trans bl
  · intro j hj
    rcases Nat.lt_or_ge j k with c | c
    · exact h.nz j c
    · obtain rfl : j = k := by omega
      exact hz
set_option maxHeartbeats 6400000 in
set_option maxRecDepth 100000 in
theorem readList8_any {B n c : Nat} {A : Option Addr} {xs : List Int} (w : World) (h : Rds B w .u8 A n c xs) (hb : Byt xs) :
    Calls Try.prog 6 #[.slice A n c] w (RLPost (readL xs) (errOf (readL xs).isSome) w) := by
  obtain ⟨W, hW⟩ : ∃ W, W = (w.alloc (.cells #[.slice none 0 0, .slice none 0 0, .slice none 0 0] 25)).alloc (.cells #[.int .i64 0] 26) := ⟨_, rfl⟩
  have HBW : Hid (Below w.heap.size w W) := by rw [hW]; exact below_pair _ _
  have HSW : Hid (W.heap.size = w.heap.size + 2) := by rw [hW]; show _ = _; simp
  have HXW : Hid (RC W w.heap.size (.slice none 0 0) (.slice none 0 0) (.slice none 0 0) 0) := by
    rw [hW]
    exact ⟨heap_alloc2_old w _ _, heap_alloc2_new w _ _⟩
  have key := headed_any (q := w.heap.size) 128 (by decide) (by decide) W (Nat.le_refl _) (h.below HBW.out).top (fun a p e => (h.safe p a e).1) HBW.out.size hb
  have HBY := Lib.hid hb
  clear h hb
  cases hst : startP xs 128 with
  | none =>
    rw [hst] at key
    have HL : Hid (readL xs = none) := by show _ = _; unfold readL; rw [hst]
    have key2 : Calls Try.prog 32 #[.slice A n c, .int .u8 128] W fun e w1 => ∃ v A1 n1 c1 A2 n2 c2 A3 n3 c3, e = .returned (.tuple #[.int .i64 v, .slice A1 n1 c1, .slice A2 n2 c2, .slice A3 n3 c3, .bool false]) ∧ RC w1 w.heap.size (.slice none 0 0) (.slice none 0 0) (.slice none 0 0) 0 ∧ Below w.heap.size w w1 := by
      refine key.mono ?_
      rintro e w1 ⟨hb1, v, A1, n1, c1, A2, n2, c2, A3, n3, c3, rfl⟩
      exact ⟨v, A1, n1, c1, A2, n2, c2, A3, n3, c3, rfl, HXW.out.below hb1, below_next HBW.out HBW.out.size hb1⟩
    clear key hst
    rw [hW] at key2
    refine (callsIn_wide (n := 2)).1 ?_
    refine callsIn_of_wp_marks Try.func6 rfl trivial ?_ rfl
    simp only [Try.ntmps6, List.size_toArray, List.length_cons, List.length_nil, Nat.reduceAdd, Nat.reduceSub, Array.replicate_succ, Array.replicate_zero, List.push_toArray, List.append_toArray, List.nil_append, List.cons_append]
    gi_wp2_with (refine ⟨trivial, ?_⟩; gi_at_call 32; refine (callsIn_wide.2 key2).mono ?_; clear key2; rintro e w1 ⟨v, A1, n1, c1, A2, n2, c2, A3, n3, c3, rfl, hrc, hbz⟩; obtain ⟨x0, x1, x2, x3, f0, f1⟩ := hrc.cells; have HRC := Lib.hid hrc; have HBz := Lib.hid hbz; clear hrc hbz)
    have HRC2 := Lib.hid (HRC.out.put (.slice none 0 0) (.slice none 0 0) (.slice none 0 0) 3)
    have HB2 := Lib.hid (RC.bl HBz.out (Nat.le_refl _) (.slice none 0 0) (.slice none 0 0) (.slice none 0 0) 3)
    obtain ⟨u, hu⟩ : ∃ u, u = ((((w1.setCell ⟨w.heap.size, 0, none⟩ (.slice none 0 0)).setCell ⟨w.heap.size, 1, none⟩ (.slice none 0 0)).setCell ⟨w.heap.size, 2, none⟩ (.slice none 0 0)).setCell ⟨w.heap.size + 1, 0, none⟩ (.int .i64 3)) := ⟨_, rfl⟩
    rw [← hu] at HRC2 HB2 ⊢
    obtain ⟨z0, z1, z2, z3, -, -⟩ := HRC2.out.cells
    clear hu
    refine ⟨.tuple #[.agg #[.slice none 0 0, .slice none 0 0, .slice none 0 0], .int .i64 3], by simp [results, Try.results6, go_sem, z0, z1, z2, z3], ?_⟩
    rw [HL.out]
    exact RLPost.none (V := .int .i64 3) HB2.out
  | some hd =>
    rw [hst] at key
    obtain ⟨v, ts, fr, rs⟩ := hd
    obtain ⟨-, -, hbr, hv0, hv1, -, -⟩ := startP_some hst HBY.out
    have HBR : Hid (Byt rs) := hbr
    have HLn : Hid (¬ listOk ⟨v, ts, fr, rs⟩ → readL xs = none) := by show _ → _; intro q; unfold readL; rw [hst]; simp only; rw [if_neg q]
    have HLy : Hid (listOk ⟨v, ts, fr, rs⟩ → readL xs = some (ts, fr, quadsN rs (rs.length / 4))) := by show _ → _; intro q; unfold readL; rw [hst]; simp only; rw [if_pos q]
    clear hst hbr
    obtain ⟨m, hm⟩ : ∃ m, rs.length = m := ⟨_, rfl⟩
    obtain ⟨n1, hn1⟩ : ∃ m, ts.length = m := ⟨_, rfl⟩
    obtain ⟨n2, hn2⟩ : ∃ m, fr.length = m := ⟨_, rfl⟩
    have HM := Lib.hid hm
    have HN1 := Lib.hid hn1
    have HN2 := Lib.hid hn2
    have key2 : Calls Try.prog 32 #[.slice A n c, .int .u8 128] W fun e w1 => ∃ A1 c1 A2 c2 A3 c3, e = .returned (.tuple #[.int .i64 v, .slice A1 n1 c1, .slice A2 n2 c2, .slice A3 m c3, .bool true]) ∧ RC w1 w.heap.size (.slice none 0 0) (.slice none 0 0) (.slice none 0 0) 0 ∧ Below w.heap.size w w1 ∧ Below W.heap.size W w1 ∧ Rds (w.heap.size + 2) w1 .u8 A1 n1 c1 ts ∧ Rds (w.heap.size + 2) w1 .u8 A2 n2 c2 fr ∧ Rds (w.heap.size + 2) w1 .u8 A3 m c3 rs ∧ Away w.heap.size (w.heap.size + 2) A1 n1 ∧ Away w.heap.size (w.heap.size + 2) A2 n2 := by
      refine key.mono ?_
      rintro e w1 ⟨hb1, A1, c1, A2, c2, A3, c3, rfl, r1, r2, r3, a1, a2, -⟩
      simp only [hm, hn1, hn2] at r1 r2 r3 a1 a2 ⊢
      rw [← HSW.out]
      exact ⟨A1, c1, A2, c2, A3, c3, rfl, HXW.out.below hb1, below_next HBW.out HBW.out.size hb1, hb1, r1, r2, r3, a1, a2⟩
    clear key hn1 hn2 hm
    rw [hW] at key2
    by_cases q1 : v = 0
    rotate_left
    · have HL : Hid (readL xs = none) := HLn.out fun q => q1 q.1
      have hb : (v != 0) = true := by simp [q1]
      clear q1
      refine (callsIn_wide (n := 2)).1 ?_
      refine callsIn_of_wp_marks Try.func6 rfl trivial ?_ rfl
      simp only [Try.ntmps6, List.size_toArray, List.length_cons, List.length_nil, Nat.reduceAdd, Nat.reduceSub, Array.replicate_succ, Array.replicate_zero, List.push_toArray, List.append_toArray, List.nil_append, List.cons_append]
      gi_wp2_with (refine ⟨trivial, ?_⟩; gi_at_call 32; refine (callsIn_wide.2 key2).mono ?_; clear key2; rintro e w1 ⟨A1, c1, A2, c2, A3, c3, rfl, hrc, hbz, hb1, r1, r2, r3, aw1, aw2⟩; obtain ⟨x0, x1, x2, x3, f0, f1⟩ := hrc.cells; have HRC := Lib.hid hrc; have HBz := Lib.hid hbz; have HB1 := Lib.hid hb1; have R1 := Lib.hid r1; have R2 := Lib.hid r2; have R3 := Lib.hid r3; have AW1 := Lib.hid aw1; have AW2 := Lib.hid aw2; have hcc := r3.cap; have hcm := r3.max; clear hrc hbz hb1 r1 r2 r3 aw1 aw2)
      have HRC2 := Lib.hid (HRC.out.put (.slice none 0 0) (.slice none 0 0) (.slice none 0 0) 3)
      have HB2 := Lib.hid (RC.bl HBz.out (Nat.le_refl _) (.slice none 0 0) (.slice none 0 0) (.slice none 0 0) 3)
      obtain ⟨u, hu⟩ : ∃ u, u = ((((w1.setCell ⟨w.heap.size, 0, none⟩ (.slice none 0 0)).setCell ⟨w.heap.size, 1, none⟩ (.slice none 0 0)).setCell ⟨w.heap.size, 2, none⟩ (.slice none 0 0)).setCell ⟨w.heap.size + 1, 0, none⟩ (.int .i64 3)) := ⟨_, rfl⟩
      rw [← hu] at HRC2 HB2 ⊢
      obtain ⟨z0, z1, z2, z3, -, -⟩ := HRC2.out.cells
      clear hu
      refine ⟨.tuple #[.agg #[.slice none 0 0, .slice none 0 0, .slice none 0 0], .int .i64 3], by simp [results, Try.results6, go_sem, z0, z1, z2, z3], ?_⟩
      rw [HL.out]
      exact RLPost.none (V := .int .i64 3) HB2.out
    have hvb : (v != 0) = false := by simp [q1]
    by_cases q2 : m = 0
    · have HL : Hid (readL xs = none) := HLn.out fun q => q.2.1 (by rw [← q2]; exact HM.out)
      subst q2
      clear q1
      refine (callsIn_wide (n := 2)).1 ?_
      refine callsIn_of_wp_marks Try.func6 rfl trivial ?_ rfl
      simp only [Try.ntmps6, List.size_toArray, List.length_cons, List.length_nil, Nat.reduceAdd, Nat.reduceSub, Array.replicate_succ, Array.replicate_zero, List.push_toArray, List.append_toArray, List.nil_append, List.cons_append]
      gi_wp2_with (refine ⟨trivial, ?_⟩; gi_at_call 32; refine (callsIn_wide.2 key2).mono ?_; clear key2; rintro e w1 ⟨A1, c1, A2, c2, A3, c3, rfl, hrc, hbz, hb1, r1, r2, r3, aw1, aw2⟩; obtain ⟨x0, x1, x2, x3, f0, f1⟩ := hrc.cells; have HRC := Lib.hid hrc; have HBz := Lib.hid hbz; have HB1 := Lib.hid hb1; have R1 := Lib.hid r1; have R2 := Lib.hid r2; have R3 := Lib.hid r3; have AW1 := Lib.hid aw1; have AW2 := Lib.hid aw2; have hcc := r3.cap; have hcm := r3.max; clear hrc hbz hb1 r1 r2 r3 aw1 aw2)
      have HRC2 := Lib.hid (HRC.out.put (.slice none 0 0) (.slice none 0 0) (.slice none 0 0) 3)
      have HB2 := Lib.hid (RC.bl HBz.out (Nat.le_refl _) (.slice none 0 0) (.slice none 0 0) (.slice none 0 0) 3)
      obtain ⟨u, hu⟩ : ∃ u, u = ((((w1.setCell ⟨w.heap.size, 0, none⟩ (.slice none 0 0)).setCell ⟨w.heap.size, 1, none⟩ (.slice none 0 0)).setCell ⟨w.heap.size, 2, none⟩ (.slice none 0 0)).setCell ⟨w.heap.size + 1, 0, none⟩ (.int .i64 3)) := ⟨_, rfl⟩
      rw [← hu] at HRC2 HB2 ⊢
      obtain ⟨z0, z1, z2, z3, -, -⟩ := HRC2.out.cells
      clear hu
      refine ⟨.tuple #[.agg #[.slice none 0 0, .slice none 0 0, .slice none 0 0], .int .i64 3], by simp [results, Try.results6, go_sem, z0, z1, z2, z3], ?_⟩
      rw [HL.out]
      exact RLPost.none (V := .int .i64 3) HB2.out
    have hmb : ((m : Int) == 0) = false := by simp [q2]
    have hm0 : (0 : Int) ≤ m := by omega
    by_cases q3 : m % 4 = 0
    rotate_left
    · have HL : Hid (readL xs = none) := HLn.out fun q => q3 (by rw [← HM.out]; exact q.2.2.1)
      have hb : ¬ ((m : Int) % 4 = 0) := by omega
      clear q1 q3
      refine (callsIn_wide (n := 2)).1 ?_
      refine callsIn_of_wp_marks Try.func6 rfl trivial ?_ rfl
      simp only [Try.ntmps6, List.size_toArray, List.length_cons, List.length_nil, Nat.reduceAdd, Nat.reduceSub, Array.replicate_succ, Array.replicate_zero, List.push_toArray, List.append_toArray, List.nil_append, List.cons_append]
      gi_wp2_with (refine ⟨trivial, ?_⟩; gi_at_call 32; refine (callsIn_wide.2 key2).mono ?_; clear key2; rintro e w1 ⟨A1, c1, A2, c2, A3, c3, rfl, hrc, hbz, hb1, r1, r2, r3, aw1, aw2⟩; obtain ⟨x0, x1, x2, x3, f0, f1⟩ := hrc.cells; have HRC := Lib.hid hrc; have HBz := Lib.hid hbz; have HB1 := Lib.hid hb1; have R1 := Lib.hid r1; have R2 := Lib.hid r2; have R3 := Lib.hid r3; have AW1 := Lib.hid aw1; have AW2 := Lib.hid aw2; have hcc := r3.cap; have hcm := r3.max; clear hrc hbz hb1 r1 r2 r3 aw1 aw2)
      have HRC2 := Lib.hid (HRC.out.put (.slice none 0 0) (.slice none 0 0) (.slice none 0 0) 3)
      have HB2 := Lib.hid (RC.bl HBz.out (Nat.le_refl _) (.slice none 0 0) (.slice none 0 0) (.slice none 0 0) 3)
      obtain ⟨u, hu⟩ : ∃ u, u = ((((w1.setCell ⟨w.heap.size, 0, none⟩ (.slice none 0 0)).setCell ⟨w.heap.size, 1, none⟩ (.slice none 0 0)).setCell ⟨w.heap.size, 2, none⟩ (.slice none 0 0)).setCell ⟨w.heap.size + 1, 0, none⟩ (.int .i64 3)) := ⟨_, rfl⟩
      rw [← hu] at HRC2 HB2 ⊢
      obtain ⟨z0, z1, z2, z3, -, -⟩ := HRC2.out.cells
      clear hu
      refine ⟨.tuple #[.agg #[.slice none 0 0, .slice none 0 0, .slice none 0 0], .int .i64 3], by simp [results, Try.results6, go_sem, z0, z1, z2, z3], ?_⟩
      rw [HL.out]
      exact RLPost.none (V := .int .i64 3) HB2.out
    have hr4 : (m : Int) % 4 = 0 := by omega
    by_cases q4 : 64 < m
    · have HL : Hid (readL xs = none) := HLn.out fun q => by have := q.2.2.2.1; have := HM.out; simp only at *; omega
      have hb : (m : Int) > 64 := by omega
      clear q1 q3
      refine (callsIn_wide (n := 2)).1 ?_
      refine callsIn_of_wp_marks Try.func6 rfl trivial ?_ rfl
      simp only [Try.ntmps6, List.size_toArray, List.length_cons, List.length_nil, Nat.reduceAdd, Nat.reduceSub, Array.replicate_succ, Array.replicate_zero, List.push_toArray, List.append_toArray, List.nil_append, List.cons_append]
      gi_wp2_with (refine ⟨trivial, ?_⟩; gi_at_call 32; refine (callsIn_wide.2 key2).mono ?_; clear key2; rintro e w1 ⟨A1, c1, A2, c2, A3, c3, rfl, hrc, hbz, hb1, r1, r2, r3, aw1, aw2⟩; obtain ⟨x0, x1, x2, x3, f0, f1⟩ := hrc.cells; have HRC := Lib.hid hrc; have HBz := Lib.hid hbz; have HB1 := Lib.hid hb1; have R1 := Lib.hid r1; have R2 := Lib.hid r2; have R3 := Lib.hid r3; have AW1 := Lib.hid aw1; have AW2 := Lib.hid aw2; have hcc := r3.cap; have hcm := r3.max; clear hrc hbz hb1 r1 r2 r3 aw1 aw2)
      have HRC2 := Lib.hid (HRC.out.put (.slice none 0 0) (.slice none 0 0) (.slice none 0 0) 3)
      have HB2 := Lib.hid (RC.bl HBz.out (Nat.le_refl _) (.slice none 0 0) (.slice none 0 0) (.slice none 0 0) 3)
      obtain ⟨u, hu⟩ : ∃ u, u = ((((w1.setCell ⟨w.heap.size, 0, none⟩ (.slice none 0 0)).setCell ⟨w.heap.size, 1, none⟩ (.slice none 0 0)).setCell ⟨w.heap.size, 2, none⟩ (.slice none 0 0)).setCell ⟨w.heap.size + 1, 0, none⟩ (.int .i64 3)) := ⟨_, rfl⟩
      rw [← hu] at HRC2 HB2 ⊢
      obtain ⟨z0, z1, z2, z3, -, -⟩ := HRC2.out.cells
      clear hu
      refine ⟨.tuple #[.agg #[.slice none 0 0, .slice none 0 0, .slice none 0 0], .int .i64 3], by simp [results, Try.results6, go_sem, z0, z1, z2, z3], ?_⟩
      rw [HL.out]
      exact RLPost.none (V := .int .i64 3) HB2.out
    have hb : ¬ (m : Int) > 64 := by omega
    clear q1
    refine (callsIn_wide (n := 2)).1 ?_
    refine callsIn_of_wp_marks Try.func6 rfl trivial ?_ rfl
    simp only [Try.ntmps6, List.size_toArray, List.length_cons, List.length_nil, Nat.reduceAdd, Nat.reduceSub, Array.replicate_succ, Array.replicate_zero, List.push_toArray, List.append_toArray, List.nil_append, List.cons_append]
    gi_wp2_with (refine ⟨trivial, ?_⟩; gi_at_call 32; refine (callsIn_wide.2 key2).mono ?_; clear key2; rintro e w1 ⟨A1, c1, A2, c2, A3, c3, rfl, hrc, hbz, hb1, r1, r2, r3, aw1, aw2⟩; obtain ⟨x0, x1, x2, x3, f0, f1⟩ := hrc.cells; have HRC := Lib.hid hrc; have HBz := Lib.hid hbz; have HB1 := Lib.hid hb1; have R1 := Lib.hid r1; have R2 := Lib.hid r2; have R3 := Lib.hid r3; have AW1 := Lib.hid aw1; have AW2 := Lib.hid aw2; have hcc := r3.cap; have hcm := r3.max; clear hrc hbz hb1 r1 r2 r3 aw1 aw2)
    refine ⟨trivial, ?_⟩
    refine (callsIn_wide.2 (chunk_any _ _ _ _)).mono ?_
    rintro e w' ⟨rfl, rfl⟩
    gi_wp2
    obtain ⟨V, hV⟩ : ∃ V, V = ((w1.alloc (.cells #[.slice A1 n1 c1, .slice A2 n2 c2, .slice none 0 0] 25)).alloc (.cells #[.slice A3 m c3] 22)).alloc (.cells #[.int .i64 4] 3) := ⟨_, rfl⟩
    obtain ⟨g, hg⟩ : ∃ g, g = w1.heap.size := ⟨_, rfl⟩
    have hb3 : Below w1.heap.size w1 V := by rw [hV]; exact ((below_new _).alloc (by simp) _).alloc (by simp; omega) _
    have hv0 : V.heap[g]? = some (.cells #[.slice A1 n1 c1, .slice A2 n2 c2, .slice none 0 0] 25 (0, 0)) := by
      rw [hV, hg]; exact (Below.heap_alloc _ _ _ (by simp; omega)).trans (heap_alloc2_old w1 _ _)
    have hv1 : V.heap[g + 1]? = some (.cells #[.slice A3 m c3] 22 (0, 0)) := by
      rw [hV, hg]; exact (Below.heap_alloc _ _ _ (by simp)).trans (heap_alloc2_new w1 _ _)
    have hv2 : V.heap[g + 1 + 1]? = some (.cells #[.int .i64 4] 3 (0, 0)) := by
      have := heap_alloc_new ((w1.alloc (.cells #[.slice A1 n1 c1, .slice A2 n2 c2, .slice none 0 0] 25)).alloc (.cells #[.slice A3 m c3] 22)) (.cells #[.int .i64 4] 3)
      rw [World.size_alloc, World.size_alloc] at this
      rw [hV, hg]; exact this
    have HI0 : Hid (LI w1 w.heap.size g (w.heap.size + 2) A1 A2 A3 n1 c1 n2 c2 m c3 rs 0 V) :=
      ⟨HRC.out.below hb3, ⟨_, hv0, OwnI.nil _ _ _⟩, hv1, hv2, R3.out.below hb3, by rw [hg]; exact hb3, fun j hj => absurd hj (Nat.not_lt_zero j)⟩
    have HG := Lib.hid hg
    rw [← hV, ← hg]
    clear hV hg hb3 hv0 hv1 hv2
    have HDV : Hid (w.heap.size + 2 ≤ V.heap.size) := by show _ ≤ _; have := HB1.out.size; have := HI0.out.bl.size; simp only [World.size_alloc] at *; omega
    have HGV : Hid (g ≤ V.heap.size) := Nat.le_of_lt (by obtain ⟨_, q, _⟩ := HI0.out.la; exact lt_of_get q)
    have hmN : 4 * (m / 4) = m := by omega
    have hm64 : m ≤ 64 := by omega
    refine range_givesR (m := 0) (gf := 60) (lb := #[.pointer (some ⟨g + 1, 0, none⟩), .pointer (some ⟨g + 1 + 1, 0, none⟩)]) rfl (enters_of Try.func60 (by kernel_rfl) rfl)
      (chunk_gives (B := w.heap.size + 2) (s0 := g + 1) (s1 := g + 1 + 1) (A := A3) (n := m) (c := c3) (rs := rs) (N := m / 4) 0 hmN hm64) (fun x => rfl)
      (fun k W' => LI w1 w.heap.size g (w.heap.size + 2) A1 A2 A3 n1 c1 n2 c2 m c3 rs k W')
      (fun W' => RC W' w.heap.size (.slice none 0 0) (.slice none 0 0) (.slice none 0 0) 3 ∧ readL xs = none ∧ Below w.heap.size w W')
      (cAx (w.heap.size + 2) rs (fun s => #[.slice A n c, undef, .pointer (some ⟨w.heap.size, 0, none⟩), .pointer (some ⟨w.heap.size + 1, 0, none⟩), .int .i64 v, .slice A1 n1 c1, .slice A2 n2 c2, .slice A3 m c3, .bool true, .pointer (some ⟨g, 0, none⟩), s, .tuple #[.int .i64 v, .slice A1 n1 c1, .slice A2 n2 c2, .slice A3 m c3, .bool true], .slice A n c, .tuple #[.int .i64 v, .slice A1 n1 c1, .slice A2 n2 c2, .slice A3 m c3, .bool true], .int .i64 v, .slice A1 n1 c1, .slice A2 n2 c2, .slice A3 m c3, .bool true, .bool true, .bool false, .bool false, .int .i64 v, .bool false, .bool false, .bool false, .slice A3 m c3, .int .i64 m, .bool false, .bool false, .bool false, .slice A3 m c3, .int .i64 m, .int .i64 0, .bool false, .bool false, .bool false, .slice A3 m c3, .int .i64 m, .bool (decide (64 < (m : Int))), .bool (decide (64 < (m : Int))), undef, .slice A1 n1 c1, .slice A2 n2 c2, .agg #[.slice A1 n1 c1, .slice A2 n2 c2, .slice none 0 0], .slice A3 m c3, .func (.func 60) #[] #[.pointer (some ⟨g + 1, 0, none⟩), .pointer (some ⟨g + 1 + 1, 0, none⟩)], s, undef, undef, undef, undef, undef, undef, undef, undef, undef, undef, undef, undef, undef]))
      (fun k W1 W2 h hf => h.lp hf HDV.out HGV.out (Nat.le_of_eq HG.out)) (fun W1 W2 h hf => ⟨⟨cells8_lp h.1.1 hf, cells8_lp h.1.2 hf⟩, h.2.1, h.2.2.trans ((hf.weak (by have := HDV.out; omega)).below h.2.2.size)⟩) (fun k x a W1 W2 h hf => ⟨rds8_lp h.1 hf HDV.out, h.2⟩) (fun k W' h => ⟨h.b0, h.b1, h.r3⟩) HI0.out ?assign ?body ?done ?stop
    case assign =>
      intro l k x W2 K hI hN hGd hK
      simp only [cEnc]
      gi_wp2
      exact hK _ _ (Below.refl _ _) ⟨hGd, rfl⟩
    case body =>
      intro l k x a₁ W2 hkN hI hax
      obtain ⟨hx, rfl⟩ := hax
      have hbx : Byt (cutL rs (4 * k) 4) := HBR.out.cut _ _
      have hq0 : 0 ≤ quad rs k ∧ quad rs k ≤ 4294967295 := by
        have hl4 := hx.len
        have := beN_bound hbx 4 (by decide) (by omega)
        rw [List.take_of_length_le (by omega)] at this
        have e : (256 : Int) ^ 4 = 4294967296 := by decide
        unfold quad
        omega
      have hnz : quad rs k = 0 → readL xs = none := fun q0 => HLn.out fun q => q.2.2.2.2 k (by simp only [HM.out]; exact hkN) q0
      have hr3 : ∀ a, 0 < m → A3 = some a → a.block < g := fun a p e => by rw [HG.out]; exact (R3.out.safe p a e).1
      obtain ⟨vv, hvg, hvo⟩ := hI.la
      obtain ⟨A4, c4, rfl⟩ := hvo.slice
      rw [quadsN_len] at hvg hvo
      have hwg : w.heap.size + 1 < g := by have := HB1.out.size; have := HG.out; simp only [World.size_alloc] at *; omega
      have hDg : w.heap.size + 2 ≤ g := by omega
      have hbw2 : Below w.heap.size w W2 := HBz.out.trans (hI.bl.mono (by omega))
      have happ := fun hz w4 hb => hI.app hvg hvo (by omega) hz hwg HG.out hDg hr3 w4 hb
      obtain ⟨qv, hqv⟩ : ∃ q, q = quad rs k := ⟨_, rfl⟩
      rw [← hqv] at hq0 hnz happ
      have key : Calls Try.prog 35 #[.slice x 4 4] W2 fun e w' => e = .returned (.int .i64 qv) ∧ Below W2.heap.size W2 w' := by
        have := small_any W2 hx rfl hbx
        rw [hqv]; exact this
      by_cases q0 : qv = 0
      · have HL : Hid (readL xs = none) := hnz q0
        have hve : decide (VerOk qv) = false := decide_eq_false fun h => by have := h.1; omega
        have keyS : Calls Try.prog 35 #[.slice x 4 4] W2 fun e w' => e = .returned (.int .i64 qv) ∧ RC w' w.heap.size (.slice none 0 0) (.slice none 0 0) (.slice none 0 0) 0 ∧ Below w.heap.size w w' ∧ Keep8 W2 w' := by
          refine key.mono ?_
          rintro e w' ⟨rfl, hb⟩
          exact ⟨rfl, hI.rc.below hb, below_next hbw2 hbw2.size hb, .of_below hb⟩
        have HVE := Lib.hid hve
        clear key hI hx hbx hq0 hnz hr3 hvg hvo hwg hDg hbw2 happ hqv q0 hve
        gi_wp2_with (first | (refine ⟨trivial, rfl, ?_⟩; gi_at_call 35; refine (CallsIn.inRound l (callsIn_wide.2 keyS)).mono ?_; clear keyS; rintro e w3 ⟨rfl, hrc, hbz, hkp⟩; obtain ⟨x0, x1, x2, x3, f0, f1⟩ := hrc.cells; have HRCx := Lib.hid hrc; have HBx := Lib.hid hbz; have HKx := Lib.hid hkp; clear hrc hbz hkp) | (refine ⟨trivial, rfl, ?_⟩; gi_at_call 34; refine (CallsIn.inRound l (callsIn_wide.2 (version_any qv _))).mono ?_; rintro e w4 ⟨rfl, rfl⟩; rw [HVE.out]))
        refine ⟨fun i o h1 h2 => HRCx.out.keep _ _ _ _ i o (HKx.out i o h1 h2) h2, HRCx.out.put _ _ _ _, HL.out, RC.bl HBx.out (Nat.le_refl _) _ _ _ _⟩
      · have hve : decide (VerOk qv) = true := decide_eq_true ⟨by omega, hq0.2⟩
        have HVE := Lib.hid hve
        have HAP := Lib.hid (happ q0)
        have keyS : Calls Try.prog 35 #[.slice x 4 4] W2 fun e w' => e = .returned (.int .i64 qv) ∧ w'.drew.cell? ⟨g, 2, none⟩ = some (.slice A4 k c4) ∧ Calls Try.prog 35 #[.slice x 4 4] w'.drew fun e w4 => e = .returned (.int .i64 qv) ∧ w4.cell? ⟨g, 2, none⟩ = some (.slice A4 k c4) ∧ (w4.alloc (.cells #[.int .i64 qv] 3)).cell? ⟨g, 2, none⟩ = some (.slice A4 k c4) ∧ Below W2.heap.size W2 w4 := by
          refine key.mono ?_
          rintro e w' ⟨rfl, hb⟩
          have hbd : Below W2.heap.size W2 w'.drew := hb.drew
          have y0 := hbd.block _ (lt_of_get hvg)
          rw [hvg] at y0
          refine ⟨rfl, by rw [cell_of_row w'.drew g 2 _ _ _ y0]; rfl, ?_⟩
          have := small_any w'.drew (hx.below hbd) rfl hbx
          refine this.mono ?_
          rintro e w4 ⟨rfl, hb4⟩
          have hb5 : Below W2.heap.size W2 w4 := below_next hbd hbd.size hb4
          have y1 := hb5.block _ (lt_of_get hvg)
          rw [hvg] at y1
          have y2 := (below_new (w := w4) (.cells #[.int .i64 qv] 3)).block _ (lt_of_get y1)
          rw [y1] at y2
          exact ⟨by rw [hqv]; rfl, by rw [cell_of_row w4 g 2 _ _ _ y1]; rfl, by rw [cell_of_row _ g 2 _ _ _ y2]; rfl, hb5⟩
        clear key hI hx hbx hq0 hnz hr3 hvg hvo hwg hDg hbw2 happ hqv q0 hve
        gi_wp2_with (first | (refine ⟨trivial, rfl, ?_⟩; gi_at_call 35; refine (CallsIn.inRound l (callsIn_wide.2 keyS)).mono ?_; clear keyS; rintro e w3 ⟨rfl, y0, key2⟩) | (refine ⟨trivial, rfl, ?_⟩; gi_at_call 34; refine (CallsIn.inRound l (callsIn_wide.2 (version_any qv _))).mono ?_; rintro e w4 ⟨rfl, rfl⟩; rw [HVE.out]))
        have hmix : Try.prog.follows .mixedOrders = true := by kernel_rfl
        obtain ⟨M, hM⟩ : ∃ M : Act → World → Prop, M = fun a w' => Keep8 W2 w' ∧ LI w1 w.heap.size g (w.heap.size + 2) A1 A2 A3 n1 c1 n2 c2 m c3 rs (k + 1) w' := ⟨_, rfl⟩
        have HMM := Lib.hid hM
        clear hM
        refine wpIn_mono (Q := onlyEnd8 M) ?_ (fun e a wq h => ?_)
        · refine wpIn_region_any hmix ?_
          try change wpAnyIn _ _ _ _ _ _ _ _ _ (World.drew _)
          repeat' (first
            | refine wpAnyIn_done (by decide +kernel) ?_ _
            | exact AllReadyIn.nil
            | refine AllReadyIn.cons rfl (fun K8 hK8 => ?_) ?_
            | (refine step_app8 (by first | rfl | decide +kernel) (.tmp 54) (.tmp 57) 23 rfl rfl rfl HRUN.out (hK8 _ _ ?_); clear hK8 K8)
            | (go_simp; refine hK8 _ _ ?_; clear hK8 K8)
            | (go_simp; refine ⟨trivial, rfl, ?_⟩; gi_at_call 35; refine (CallsIn.inRound l (callsIn_wide.2 key2)).mono ?_; clear key2; rintro e w4 ⟨rfl, y1, y2, hb4⟩; obtain ⟨A5, c5, U, hrun, uf, uc, hkp, hli⟩ := HAP.out w4 hb4; have HRUN := Lib.hid hrun; have HKP := Lib.hid hkp; have HLI := Lib.hid hli; clear hrun hkp hli hb4; refine hK8 _ _ ?_; clear hK8 K8)
            | refine wpAnyIn_ready (rs := [0, 2]) (by decide +kernel) (by simp) ?_
            | refine wpAnyIn_ready (rs := [1, 2]) (by decide +kernel) (by simp) ?_
            | refine wpAnyIn_ready (rs := [0, 3]) (by decide +kernel) (by simp) ?_
            | refine wpAnyIn_ready (rs := [1, 3]) (by decide +kernel) (by simp) ?_
            | refine wpAnyIn_ready (rs := [0, 4]) (by decide +kernel) (by simp) ?_
            | refine wpAnyIn_ready (rs := [1, 4]) (by decide +kernel) (by simp) ?_
            | refine wpAnyIn_ready (rs := [0]) (by decide +kernel) (by simp) ?_
            | refine wpAnyIn_ready (rs := [1]) (by decide +kernel) (by simp) ?_
            | refine wpAnyIn_ready (rs := [2]) (by decide +kernel) (by simp) ?_
            | refine wpAnyIn_ready (rs := [3]) (by decide +kernel) (by simp) ?_
            | refine wpAnyIn_ready (rs := [4]) (by decide +kernel) (by simp) ?_
            | refine wpAnyIn_ready (rs := [5]) (by decide +kernel) (by simp) ?_
            | refine wpAnyIn_ready (rs := [6]) (by decide +kernel) (by simp) ?_
            | refine wpAnyIn_ready (rs := [7]) (by decide +kernel) (by simp) ?_
            | refine wpAnyIn_ready (rs := [5, 6]) (by decide +kernel) (by simp) ?_)
          all_goals show M _ _
          all_goals rw [HMM.out]
          all_goals exact ⟨HKP.out, HLI.out⟩
        · cases e with
          | normal => have h' : M a wq := h; rw [HMM.out] at h'; exact h'
          | _ => exact h.elim
    case done =>
      intro W2 hI hK
      obtain ⟨vv, hvg, hvo⟩ := hI.la
      obtain ⟨A4, c4, hvs⟩ := hvo.slice
      rw [quadsN_len] at hvs
      subst hvs
      have y0 : W2.cell? ⟨g, 0, none⟩ = some (.slice A1 n1 c1) := by rw [cell_of_row W2 g 0 _ _ _ hvg]; rfl
      have y1 : W2.cell? ⟨g, 1, none⟩ = some (.slice A2 n2 c2) := by rw [cell_of_row W2 g 1 _ _ _ hvg]; rfl
      have y2 : W2.cell? ⟨g, 2, none⟩ = some (.slice A4 (m / 4) c4) := by rw [cell_of_row W2 g 2 _ _ _ hvg]; rfl
      obtain ⟨x0, x1, x2, x3, f0, f1⟩ := hI.rc.cells
      have HI := Lib.hid hI
      have HK := Lib.hid hK
      have VO := Lib.hid hvo
      clear hI hK hvg hvo
      gi_wp2
      have hwg : w.heap.size + 2 ≤ g := by have := HB1.out.size; have := HG.out; simp only [World.size_alloc] at *; omega
      have hbw : Below w.heap.size w W2 := HBz.out.trans (HI.out.bl.mono (by omega))
      have hrc := HI.out.rc.put (.slice A1 n1 c1) (.slice A2 n2 c2) (.slice A4 (m / 4) c4) 0
      have hbl := RC.bl hbw (Nat.le_refl _) (.slice A1 n1 c1) (.slice A2 n2 c2) (.slice A4 (m / 4) c4) 0
      have hbel : Below w1.heap.size w1 W2 := by rw [← HG.out]; exact HI.out.bl
      have N1 : ∀ a, 0 < n1 → A1 = some a → a.block ≠ w.heap.size ∧ a.block ≠ w.heap.size + 1 := fun a p e => by have := AW1.out a p e; omega
      have N2 : ∀ a, 0 < n2 → A2 = some a → a.block ≠ w.heap.size ∧ a.block ≠ w.heap.size + 1 := fun a p e => by have := AW2.out a p e; omega
      have s1 := ((((R1.out.below hbel).setIn (i := 0) (v := .slice A1 n1 c1) (fun a p e => (N1 a p e).1)).setIn (i := 1) (v := .slice A2 n2 c2) (fun a p e => (N1 a p e).1)).setIn (i := 2) (v := .slice A4 (m / 4) c4) (fun a p e => (N1 a p e).1)).setIn (i := 0) (v := .int .i64 0) (fun a p e => (N1 a p e).2)
      have s2 := ((((R2.out.below hbel).setIn (i := 0) (v := .slice A1 n1 c1) (fun a p e => (N2 a p e).1)).setIn (i := 1) (v := .slice A2 n2 c2) (fun a p e => (N2 a p e).1)).setIn (i := 2) (v := .slice A4 (m / 4) c4) (fun a p e => (N2 a p e).1)).setIn (i := 0) (v := .int .i64 0) (fun a p e => (N2 a p e).2)
      have s3 : OwnI ((((W2.setCell ⟨w.heap.size, 0, none⟩ (.slice A1 n1 c1)).setCell ⟨w.heap.size, 1, none⟩ (.slice A2 n2 c2)).setCell ⟨w.heap.size, 2, none⟩ (.slice A4 (m / 4) c4)).setCell ⟨w.heap.size + 1, 0, none⟩ (.int .i64 0)) (g + 3) .i64 (.slice A4 (m / 4) c4) (quadsN rs (m / 4)) :=
        (((VO.out.setBelow (p := ⟨w.heap.size, 0, none⟩) (show w.heap.size < g + 3 by omega) _).setBelow (p := ⟨w.heap.size, 1, none⟩) (show w.heap.size < g + 3 by omega) _).setBelow (p := ⟨w.heap.size, 2, none⟩) (show w.heap.size < g + 3 by omega) _).setBelow (p := ⟨w.heap.size + 1, 0, none⟩) (show w.heap.size + 1 < g + 3 by omega) _
      have hgv := HGV.out
      have hKu : (((((W2.setCell ⟨w.heap.size, 0, none⟩ (.slice A1 n1 c1)).setCell ⟨w.heap.size, 1, none⟩ (.slice A2 n2 c2)).setCell ⟨w.heap.size, 2, none⟩ (.slice A4 (m / 4) c4)).setCell ⟨w.heap.size + 1, 0, none⟩ (.int .i64 0))).heap[V.heap.size]? = some (.deferred (some [])) := by
        rw [in_other _ _ (show V.heap.size ≠ w.heap.size + 1 by omega), in_other _ _ (show V.heap.size ≠ w.heap.size by omega), in_other _ _ (show V.heap.size ≠ w.heap.size by omega), in_other _ _ (show V.heap.size ≠ w.heap.size by omega)]; exact HK.out
      obtain ⟨u, hu⟩ : ∃ u, u = ((((W2.setCell ⟨w.heap.size, 0, none⟩ (.slice A1 n1 c1)).setCell ⟨w.heap.size, 1, none⟩ (.slice A2 n2 c2)).setCell ⟨w.heap.size, 2, none⟩ (.slice A4 (m / 4) c4)).setCell ⟨w.heap.size + 1, 0, none⟩ (.int .i64 0)) := ⟨_, rfl⟩
      rw [← hu] at hrc hbl s1 s2 s3 hKu ⊢
      clear hu
      have hf := frm_putLoop (.deferred none) hKu rfl (Nat.le_refl _)
      obtain ⟨U, hU⟩ : ∃ U, U = u.putObj V.heap.size (.deferred none) := ⟨_, rfl⟩
      have htk := run_takeDeferred (P := Try.prog) hKu
      rw [← hU] at hf htk
      have hrc2 : RC U w.heap.size (.slice A1 n1 c1) (.slice A2 n2 c2) (.slice A4 (m / 4) c4) 0 := ⟨cells8_lp hrc.1 hf, cells8_lp hrc.2 hf⟩
      have hb2 : Below w.heap.size w U := hbl.trans ((hf.weak (by omega)).below hbl.size)
      have t1 := (rds8_lp s1 hf HDV.out).top
      have t2 := (rds8_lp s2 hf HDV.out).top
      have t3 := s3.frm (hf.mono lp8_sp)
      obtain ⟨z0, z1, z2, z3, -, -⟩ := hrc2.cells
      have HL : readL xs = some (ts, fr, quadsN rs (m / 4)) := by
        have := HLy.out ⟨by simpa using hvb, by have := HM.out; simp only; omega, by have := HM.out; simp only; omega, by have := HM.out; simp only; omega, by simp only [HM.out]; exact HI.out.nz⟩
        rw [HM.out] at this
        exact this
      refine ⟨by simp, .inl ⟨_, _, rfl, htk, ?_⟩⟩
      refine ⟨.tuple #[.agg #[.slice A1 n1 c1, .slice A2 n2 c2, .slice A4 (m / 4) c4], .int .i64 0], by simp [results, Try.results6, go_sem, z0, z1, z2, z3], ?_⟩
      rw [HL]
      refine ⟨hb2, A1, c1, A2, c2, A4, c4, ?_, ?_, ?_, ?_⟩
      · show _ = Ending.returned (.tuple #[.agg #[.slice A1 ts.length c1, .slice A2 fr.length c2, .slice A4 (quadsN rs (m / 4)).length c4], .int .i64 0])
        rw [HN1.out, HN2.out, quadsN_len]
      · show Rds U.heap.size U .u8 A1 ts.length c1 ts
        rw [HN1.out]; exact t1
      · show Rds U.heap.size U .u8 A2 fr.length c2 fr
        rw [HN2.out]; exact t2
      · show Rds U.heap.size U .i64 A4 (quadsN rs (m / 4)).length c4 (quadsN rs (m / 4))
        rw [show Value.slice A4 (m / 4) c4 = .slice A4 (quadsN rs (m / 4)).length c4 from by rw [quadsN_len]] at t3
        exact t3.rds
    case stop =>
      rintro W2 ⟨hrc, hL, hbl⟩ hK
      simp only [Exit.then]
      have hf := frm_putLoop (.deferred none) hK rfl (Nat.le_refl _)
      have hrc2 : RC (W2.putObj V.heap.size (.deferred none)) w.heap.size (.slice none 0 0) (.slice none 0 0) (.slice none 0 0) 3 := ⟨cells8_lp hrc.1 hf, cells8_lp hrc.2 hf⟩
      have hb2 : Below w.heap.size w (W2.putObj V.heap.size (.deferred none)) := hbl.trans ((hf.weak (by have := HDV.out; omega)).below hbl.size)
      obtain ⟨z0, z1, z2, z3, -, -⟩ := hrc2.cells
      refine ⟨by simp, .inl ⟨_, _, rfl, run_takeDeferred hK, ?_⟩⟩
      refine ⟨.tuple #[.agg #[.slice none 0 0, .slice none 0 0, .slice none 0 0], .int .i64 3], by simp [results, Try.results6, go_sem, z0, z1, z2, z3], ?_⟩
      rw [hL]
      exact RLPost.none (V := .int .i64 3) hb2
end Go.Proofs.Ytomopjpfdmpgpaa
