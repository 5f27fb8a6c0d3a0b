/- Own texts, one behind the other. Each bears its own remark. -/
import Derived.Test.YtbfgoojpbhlboaaDoorLib
import Derived.Test.YtbfgoojpbhlboaaDoorLanes5
/- A whole value stored over a block. No condition. -/
set_option linter.unusedVariables false
namespace Go.Proofs.YtbfgoojpbhlboaaDoor
open Go Go.RowKit

/-- A whole value is stored over a block: the walk's step. -/
theorem wp_store_row {P : Program} {w : World} {ops : Array Oper} {rest : List Oper} {o : Oper} {a : Act} {Q : Exit → Act → World → Prop} (hgd : o.guard = none) (hdst : o.dst = none) (ty : Nat) (x y : Operand) (ho : o.op = .store ty x y) (g : Nat) (cur cs : Array Value) (t : Nat) (hx : a.eval x = .pointer (some ⟨g, 0, none⟩)) (hy : a.eval y = .agg cs)
    (hs : (P.info? ty).map (·.size) = some cs.size) (hg : w.heap[g]? = some (.cells cur t (0, 0))) (hc : cur.size = cs.size) (h1 : ∀ v ∈ cs.toList, v.oneCell' = true)
    (h : wpList P ops Q rest a (w.setRow g cs)) : wpList P ops Q (o :: rest) a w := by
  have hrun := run_storeAt_row (P := P) ty g cur cs t hs hg hc h1
  refine wp_op_skip hgd ?_ (by rw [hdst]; exact h)
  unfold execOp
  simp only [ho, hx, hy, Sem.run_bind, hrun, Result.andThen_ok, Sem.run_pure]

end Go.Proofs.YtbfgoojpbhlboaaDoor

/- One cell of a block is stored: the walk's step, with the new world named. No condition. -/
set_option linter.unusedVariables false
namespace Go.Proofs.YtbfgoojpbhlboaaDoor
open Go Go.RowKit

theorem run_store_one {P : Program} {w : World} (ty : Nat) (g i : Nat) (cur : Array Value) (t : Nat) (v : Value) (hs : (P.info? ty).map (·.size) = some 1) (hg : w.heap[g]? = some (.cells cur t (0, 0))) (hi : i < cur.size) (hv : v.cells = #[v]) (h1 : v.oneCell' = true) :
    (Instr.storeAt ty (.pointer (some ⟨g, i, none⟩)) v).run P w = .ok () (w.setRow g (cur.setIfInBounds i v)) := by
  have hst := run_storeCells_at P g i t [v] 0 cur w hg (by simp; omega) (fun x hx => by simp at hx; subst hx; exact h1)
  obtain ⟨k, hk, hsz⟩ := Option.map_eq_some_iff.1 hs
  have e : (cur.toList.take (i + 0) ++ [v] ++ cur.toList.drop (i + 0 + [v].length)).toArray = cur.setIfInBounds i v := by
    apply Array.toList_inj.1
    rw [Array.toList_setIfInBounds]
    simp only [Nat.add_zero, List.length_singleton]
    rw [List.set_eq_take_append_cons_drop, if_pos (by simpa using hi)]
    simp
  rw [e] at hst
  simp [Instr.storeAt, Instr.sureAddr, storeVar, sizeOf, typeInfo, hk, hsz, hv, hst]
theorem wp_store_cell {P : Program} {w : World} {ops : Array Oper} {rest : List Oper} {o : Oper} {a : Act} {Q : Exit → Act → World → Prop} (hgd : o.guard = none) (hdst : o.dst = none) (ty : Nat) (x y : Operand) (ho : o.op = .store ty x y) (g i : Nat) (cur : Array Value) (t : Nat) (v : Value) (hx : a.eval x = .pointer (some ⟨g, i, none⟩)) (hy : a.eval y = v)
    (hs : (P.info? ty).map (·.size) = some 1) (hg : w.heap[g]? = some (.cells cur t (0, 0))) (hi : i < cur.size) (hv : v.cells = #[v]) (h1 : v.oneCell' = true)
    (h : ∀ w', w'.heap[g]? = some (.cells (cur.setIfInBounds i v) t (0, 0)) → Below g w w' → (∀ k, k ≠ g → w'.heap[k]? = w.heap[k]?) → wpList P ops Q rest a w') : wpList P ops Q (o :: rest) a w := by
  have hrun := run_store_one (P := P) ty g i cur t v hs hg hi hv h1
  refine wp_op_skip hgd ?_ (by rw [hdst]; exact h _ (setRow_heap w g _ _ _ _ hg) (below_setRow (Below.refl _ _) (Nat.le_refl _) _) fun k hk => setRow_other _ _ _ _ hk)
  unfold execOp
  simp only [ho, hx, hy, Sem.run_bind, hrun, Result.andThen_ok, Sem.run_pure]
end Go.Proofs.YtbfgoojpbhlboaaDoor

/- Lanes that read and that turn single cells of one block. No condition. -/
set_option linter.unusedVariables false
set_option linter.unusedSimpArgs false
namespace Go.Proofs.YtbfgoojpbhlboaaDoor
open Go Go.RowKit

/-- One block's cells have turned to what they shall be, or not; nothing else has turned. -/
structure Turns (g : Nat) (ty : Nat) (T : Array Value) (w w' : World) : Prop where
  bl : Below g w w'
  off : ∀ k, k < w.heap.size → k ≠ g → w'.heap[k]? = w.heap[k]?
  row : ∀ cs, w.heap[g]? = some (.cells cs ty (0, 0)) → ∃ cs', w'.heap[g]? = some (.cells cs' ty (0, 0)) ∧ cs'.size = cs.size ∧ ∀ i : Nat, cs'[i]? = cs[i]? ∨ cs'[i]? = T[i]?
theorem Turns.refl {g ty : Nat} {T : Array Value} (w : World) : Turns g ty T w w := ⟨Below.refl _ _, fun _ _ _ => rfl, fun cs h => ⟨cs, h, rfl, fun _ => .inl rfl⟩⟩
theorem Turns.trans {g ty : Nat} {T : Array Value} {a b c : World} (h : Turns g ty T a b) (k : Turns g ty T b c) : Turns g ty T a c := by
  refine ⟨h.bl.trans k.bl, fun i hi hne => (k.off i (Nat.lt_of_lt_of_le hi h.bl.size) hne).trans (h.off i hi hne), fun cs hc => ?_⟩
  obtain ⟨c1, h1, s1, e1⟩ := h.row cs hc
  obtain ⟨c2, h2, s2, e2⟩ := k.row c1 h1
  refine ⟨c2, h2, s2.trans s1, fun i => ?_⟩
  rcases e2 i with q | q
  · rw [q]; exact e1 i
  · exact .inr q
theorem Turns.cell {g ty : Nat} {T : Array Value} {w : World} {cs : Array Value} {i : Nat} {v : Value} (hg : w.heap[g]? = some (.cells cs ty (0, 0))) (hi : i < cs.size) (hT : T[i]? = some v) : Turns g ty T w (w.setRow g (cs.setIfInBounds i v)) := by
  refine ⟨below_setRow (Below.refl _ _) (Nat.le_refl _) _, fun k _ hne => setRow_other _ _ _ _ hne, fun c hc => ?_⟩
  rw [hg] at hc
  cases hc
  refine ⟨_, setRow_heap w g _ _ _ _ hg, by simp, fun j => ?_⟩
  by_cases e : j = i
  · subst e; right; rw [hT]; simp [hi]
  · left; rw [Array.getElem?_setIfInBounds]; simp [Ne.symm e]
/-- What a lane's slot holds, or which cell it has turned. -/
def turnPR (g ty : Nat) (T : Array Value) (L : List (Value ⊕ Nat)) (i : Nat) (v : Value) (w : World) : Prop := match L[i]? with
  | some (.inl x) => v = x
  | some (.inr c) => ∃ cs, w.heap[g]? = some (.cells cs ty (0, 0)) ∧ cs[c]? = T[c]?
  | none => True
theorem turnPR_step {g ty : Nat} {T : Array Value} {L : List (Value ⊕ Nat)} (i : Nat) (v : Value) (w w' : World) (h : turnPR g ty T L i v w) (hb : Turns g ty T w w') : turnPR g ty T L i v w' := by
  unfold turnPR at h ⊢
  split
  · rename_i x e; rw [e] at h; exact h
  · rename_i c e
    rw [e] at h
    obtain ⟨cs, h1, h2⟩ := h
    obtain ⟨cs', k1, k2, k3⟩ := hb.row cs h1
    refine ⟨cs', k1, ?_⟩
    rcases k3 c with q | q
    · rw [q, h2]
    · exact q
  · trivial
theorem lane_store {P : Program} {w : World} {o : Oper} {a : Act} {Q : Exit → Act → World → Prop} (ty : Nat) (x y : Tmp) (ho : o.op = .store ty (.tmp x) (.tmp y)) (hgd : o.guard = none) (hdst : o.dst = none) {g i : Nat} {cur : Array Value} {t : Nat} {v : Value} {T : Array Value} {L : List (Value ⊕ Nat)} {n : Nat}
    (hx : a.tmps[x]?.getD undef = .pointer (some ⟨g, i, none⟩)) (hy : a.tmps[y]?.getD undef = v) (hs : (P.info? ty).map (·.size) = some 1) (hg : w.heap[g]? = some (.cells cur t (0, 0))) (hi : i < cur.size) (hv : v.cells = #[v]) (h1 : v.oneCell' = true) (hT : T[i]? = some v) (hL : L[n]? = some (.inr i)) (yl : Nat → Option Bool) :
    (Region.wanted o yl = true ∧ o.wp P a w (fun a' w' => ∃ u, a' = a.put o.dst u ∧ (o.dst = none → u = undef) ∧ turnPR g t T L n u w' ∧ Turns g t T w w') Q) := by
  refine ⟨by simp [Region.wanted, hgd], ?_⟩
  have hrun := run_store_one (P := P) ty g i cur t v hs hg hi hv h1
  have hx' : a.eval (.tmp x) = .pointer (some ⟨g, i, none⟩) := by show a.tmps.getD x undef = _; simpa using hx
  have hy' : a.eval (.tmp y) = v := by show a.tmps.getD y undef = _; simpa using hy
  unfold Oper.wp execOp
  simp only [ho, hx', hy', Sem.run_bind, hrun, Result.andThen_ok, Sem.run_pure]
  have hpr : turnPR g t T L n undef (w.setRow g (cur.setIfInBounds i v)) := by
    unfold turnPR
    rw [hL]
    exact ⟨_, setRow_heap w g _ _ _ _ hg, by rw [hT]; simp [hi]⟩
  exact ⟨undef, by rw [hdst], fun _ => rfl, hpr, Turns.cell hg hi hT⟩
/-- All cells have turned. -/
theorem turned_all {n : Nat} {cs T : Array Value} (h1 : cs.size = n) (h2 : T.size = n) (h : ∀ i, i < n → cs[i]? = T[i]?) : cs = T := by
  apply Array.ext_getElem?
  intro i
  rcases Nat.lt_or_ge i n with q | q
  · exact h i q
  · rw [Array.getElem?_eq_none (by omega), Array.getElem?_eq_none (by omega)]
end Go.Proofs.YtbfgoojpbhlboaaDoor
