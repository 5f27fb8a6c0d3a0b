/- Lanes that hold values, rows of bytes, rows of rows; an append in place among them. No condition. -/
import Derived.Test.YtbfgoojpbhlboaaDoorLanes5
import Derived.Test.YtbfgoojpbhlboaaDoorBase
import Derived.Test.YtbfgoojpbhlboaaDoorConcat
import Derived.Test.YtbfgoojpbhlboaaDoorLater
set_option linter.unusedVariables false
set_option linter.unusedSimpArgs false
namespace Go.Proofs.YtbfgoojpbhlboaaDoor
open Go Go.RowKit

inductive LaneV where
  | val (v : Value)
  | row (xs : List Int)
  | rows (L : List (List Int))
  | rd (xs : List Int)
  | own (B : Nat) (xs : List Int)
def laneP : LaneV → Value → World → Prop
  | .val x, v, _ => v = x
  | .row xs, v, w => OwnI w 0 .u8 v xs
  | .rows L, v, w => ∃ g, v = .slice (some ⟨g, 0, none⟩) L.length L.length ∧ RdL 0 w g 0 L
  | .rd xs, v, w => ∃ A c, v = .slice A xs.length c ∧ Rds 0 w .u8 A xs.length c xs
  | .own B xs, v, w => OwnI w B .u8 v xs
def rowPR (L : List LaneV) (i : Nat) (v : Value) (w : World) : Prop := match L[i]? with
  | some l => laneP l v w
  | none => True
theorem laneP_below {l : LaneV} {v : Value} {w w' : World} (h : laneP l v w) (hb : Below w.heap.size w w') : laneP l v w' := by
  cases l with
  | val x => exact h
  | row xs => exact OwnI.below h hb
  | rows L => obtain ⟨g, e, hr⟩ := h; exact ⟨g, e, hr.below hb⟩
  | rd xs => obtain ⟨A, c, e, hr⟩ := h; exact ⟨A, c, e, hr.below hb⟩
  | own B xs => exact OwnI.below h hb
theorem rowPR_below {L : List LaneV} {i : Nat} {v : Value} {w w' : World} (h : rowPR L i v w) (hb : Below w.heap.size w w') : rowPR L i v w' := by
  unfold rowPR at h ⊢
  split
  · rename_i l e; rw [e] at h; exact laneP_below h hb
  · trivial
/-- The first n cells of each block stand. -/
structure RelA (g0 n : Nat) (w w' : World) : Prop where
  bl : Below g0 w w'
  row : ∀ (k : Nat) (cs : Array Value) (t : TypeId) (fr : Nat × Nat), w.heap[k]? = some (.cells cs t fr) → ∃ cs', w'.heap[k]? = some (.cells cs' t fr) ∧ cs'.size = cs.size ∧ cs'.toList.take n = cs.toList.take n
theorem RelA.of_below {g0 n : Nat} {w w' : World} (h : Below w.heap.size w w') (hg : g0 ≤ w.heap.size) : RelA g0 n w w' :=
  ⟨h.mono hg, fun k cs t fr hk => ⟨cs, (h.block k (lt_of_get hk)).trans hk, rfl, rfl⟩⟩
def okV (n : Nat) : LaneV → Prop
  | .val _ => True
  | .row xs => xs.length ≤ n
  | .rows _ => False
  | .rd _ => False
  | .own _ xs => xs.length ≤ n
theorem OwnI.relA {g0 n B : Nat} {w w' : World} {k : IntKind} {v : Value} {xs : List Int} (h : OwnI w B k v xs) (hr : RelA g0 n w w') (hn : xs.length ≤ n) : OwnI w' B k v xs := by
  rcases h with h | ⟨g, cap, cur, t, rfl, hb, hg, ht, h1, h2, h3, hc⟩
  · exact .inl h
  · obtain ⟨cs', k1, k2, k3⟩ := hr.row g cur t _ hg
    refine .inr ⟨g, cap, cs', t, rfl, hb, k1, ht, h1, by omega, h3, ?_⟩
    rw [← hc]
    have := congrArg (List.take xs.length) k3
    rwa [List.take_take, List.take_take, Nat.min_eq_left hn] at this
theorem rowPR_relA {L : List LaneV} {g0 n i : Nat} {v : Value} {w w' : World} (h : rowPR L i v w) (hr : RelA g0 n w w') (hL : ∀ l, L[i]? = some l → okV n l) : rowPR L i v w' := by
  unfold rowPR at h ⊢
  split
  · rename_i l e
    rw [e] at h
    have hk := hL l e
    cases l with
    | val x => exact h
    | row xs => exact OwnI.relA h hr hk
    | rows LL => exact hk.elim
    | rd xs => exact hk.elim
    | own B xs => exact OwnI.relA h hr hk
  · trivial
/-- One lane has a relation of its own. -/
def selR (sp : Nat) (A : World → World → Prop) (i : Nat) (w w' : World) : Prop := match Nat.beq i sp with
  | true => A w w'
  | false => Below w.heap.size w w'
theorem selR_no {sp i : Nat} {A : World → World → Prop} {w w' : World} (h : Nat.beq i sp = false) (k : Below w.heap.size w w') : selR sp A i w w' := by unfold selR; rw [h]; exact k
theorem selR_yes {sp i : Nat} {A : World → World → Prop} {w w' : World} (h : Nat.beq i sp = true) (k : A w w') : selR sp A i w w' := by unfold selR; rw [h]; exact k
theorem rowPR_sel {L : List LaneV} {sp g0 n : Nat} (hL : ∀ i l, i ≠ sp → L[i]? = some l → okV n l) (i j : Nat) (v : Value) (w w' : World) (hij : i ≠ j) (h : rowPR L i v w) (hr : selR sp (RelA g0 n) j w w') : rowPR L i v w' := by
  unfold selR at hr
  cases hb : Nat.beq j sp with
  | true =>
    rw [hb] at hr
    have e : j = sp := Nat.eq_of_beq_eq_true hb
    exact rowPR_relA h hr fun l hl => hL i l (by omega) hl
  | false => rw [hb] at hr; exact rowPR_below h hr
theorem rdl_new {w : World} {cs : Array Value} {t : TypeId} {L : List (List Int)} (hr : ∀ (i : Nat) (xs : List Int), L[i]? = some xs → ∃ A c, cs[i]? = some (.slice A xs.length c) ∧ Rds 0 w .u8 A xs.length c xs) : RdL 0 (w.alloc (.cells cs t)) w.heap.size 0 L := by
  have hrow := heap_alloc_new w (.cells cs t)
  refine ⟨lt_of_get hrow, fun i xs e => ?_⟩
  obtain ⟨A, c, h1, h2⟩ := hr i xs e
  exact ⟨A, c, by rw [cell_of_row _ _ _ _ _ _ hrow, Nat.zero_add]; exact h1, h2.below (below_new _)⟩
/-- An append, with what it leaves of the row's own block. -/
theorem run_app2 {P : Program} {w : World} (t ty e : Nat) (i : TypeInfo) (z : Value) (k : IntKind) (bytes : Nat) (ht : P.underlying t = some (.slice e)) (hi : P.info? e = some i) (hz : i.zero = some z) (hs : i.size = 1) (hby : i.bytes = bytes) (hzs : z.cells.size = 1) (he : spT e = false)
    {B : Nat} {v : Value} {xs ys : List Int} (hown : OwnI w B k v xs) {A : Option Addr} {m c : Nat} (hr : RdI w k A ys) (hm : ys.length = m) (hB : B ≤ w.heap.size) (hbytes : (xs.length + m) * bytes ≤ 140737488355328) (h63 : xs.length + m ≤ 9223372036854775807) :
    ∃ v' w', (Builtin.append_ #[t, t] ty #[v, .slice A m c]).run P w = .ok v' w' ∧ OwnI w' B k v' (xs ++ ys) ∧ RelA B xs.length w w' ∧ (v = .slice none 0 0 → Below w.heap.size w w') := by
  by_cases hy : ys = []
  · subst hy
    simp only [List.length_nil] at hm
    subst hm
    rcases hown with ⟨rfl, rfl⟩ | ⟨g, cap, cur, T, rfl, hb, hg, hT, h1, h2, h3, hc⟩
    · exact ⟨_, w, run_app_nil_src t ty e i ht hi none 0 0 (Nat.le_refl _) A c, .inl ⟨rfl, rfl⟩, .of_below (Below.refl _ _) hB, fun _ => Below.refl _ _⟩
    · exact ⟨_, w, run_app_nil_src t ty e i ht hi _ _ cap h1 A c, by rw [List.append_nil]; exact .inr ⟨g, cap, cur, T, rfl, hb, hg, hT, h1, h2, h3, hc⟩, .of_below (Below.refl _ _) hB, fun _ => Below.refl _ _⟩
  · have hpos : 0 < ys.length := List.length_pos_iff.2 hy
    obtain ⟨b, o, rfl, hcell⟩ := hr.at_ hpos
    have hnews : ∀ j u, (ys.map (Value.int k))[j]? = some u → w.cell? ((⟨b, o, none⟩ : Addr).add j) = some u := by
      intro j u hu
      have hj : j < ys.length := by simpa using (List.getElem?_eq_some_iff.1 hu).1
      rw [addr_add, hcell j hj]
      rw [List.getElem?_map, nth_lt hj] at hu
      exact hu
    have hl : (ys.map (Value.int k)).length = m * i.size := by rw [hs]; simp [hm]
    have grown : ∀ (old : Nat), old < xs.length + m → ∀ (W : World), W = (w.drew.alloc (.cells ((xs.map (Value.int k)).toArray ++ (ys.map (Value.int k)).toArray ++ Builtin.zeroCells z.cells (grownCap w (xs.length + m) old e - (xs.length + m))) e)) →
        OwnI W B k (.slice (some ⟨w.heap.size, 0, none⟩) (xs.length + m) (grownCap w (xs.length + m) old e)) (xs ++ ys) ∧ Below w.heap.size w W := by
      intro old ho W hW
      have hge := grownCap_ge w (xs.length + m) old e
      have hcm : grownCap w (xs.length + m) old e ≤ 9223372036854775807 := by
        have := grownCap_le_maxLen w (xs.length + m) old e (by simp only [maxLen]; omega)
        simpa only [maxLen] using this
      subst hW
      refine ⟨OwnI.new (t := e) (heap_alloc_new w.drew _) hB he (by simp [hm]) hge ?_ hcm ?_, ((Below.refl _ _).drew).alloc (Nat.le_refl _) _⟩
      · simp only [Array.size_append, List.size_toArray, List.length_map, size_zeroCells, hzs, hm]
        omega
      · simp only [Array.toList_append, List.append_assoc, List.map_append]
        rw [← List.append_assoc]
        rw [show xs.length + m = (xs.map (Value.int k) ++ ys.map (Value.int k)).length from by simp [hm]]
        exact List.take_left
    rcases hown with ⟨rfl, rfl⟩ | ⟨g, cap, cur, T, rfl, hb, hg, hT, h1, h2, h3, hc⟩
    · have hrun := run_append_nil (P := P) w t ty e i z ht hi hz ⟨b, o, none⟩ m c _ hl hnews (by omega) (by simp at h63; omega) (by rw [hby]; simp at hbytes; omega)
      have hgr := grown 0 (by simp; omega) _ rfl
      simp only [List.length_nil, Nat.zero_add, List.map_nil, List.nil_append, Array.empty_append] at hgr
      exact ⟨_, _, hrun, hgr.1, .of_below hgr.2 hB, fun _ => hgr.2⟩
    · by_cases hroom : xs.length + m ≤ cap
      · have hrun := run_app_room t ty e i ht hi hs g xs.length cap cur T hg ⟨b, o, none⟩ m c (ys.map (Value.int k)) (by simpa using hm) hnews (ints_oneCell k ys) hroom (by omega)
        refine ⟨_, _, hrun, OwnI.new (t := T) (setRow_heap w g cur _ T _ hg) hb hT (by simp [hm]) hroom ?_ h3 ?_, ⟨⟨rfl, rfl, rfl, by simp, fun q hq => setRow_other w g q _ (by omega)⟩, ?_⟩, fun h => by cases h⟩
        · simp only [List.size_toArray, List.length_append, List.length_take, List.length_drop, Array.length_toList, List.length_map]
          omega
        · rw [hc]
          simp only [List.map_append]
          rw [show xs.length + m = (xs.map (Value.int k) ++ ys.map (Value.int k)).length from by simp [hm]]
          exact List.take_left
        · intro q cs t' fr hq
          by_cases e1 : q = g
          · subst e1
            rw [hg] at hq
            cases hq
            refine ⟨_, setRow_heap w q cur _ T _ hg, ?_, ?_⟩
            · simp only [List.size_toArray, List.length_append, List.length_take, List.length_drop, Array.length_toList, List.length_map]
              omega
            · show List.take xs.length (List.take xs.length cur.toList ++ List.map (Value.int k) ys ++ List.drop (xs.length + m) cur.toList) = _
              rw [List.append_assoc]
              rw [List.take_append_of_le_length (by simp; omega), List.take_take, Nat.min_self]
          · exact ⟨cs, (setRow_other w g q _ e1).trans hq, rfl, rfl⟩
      · have holds : ∀ j u, (xs.map (Value.int k))[j]? = some u → w.cell? ((⟨g, 0, none⟩ : Addr).add j) = some u := by
          intro j u hu
          rw [← hc, List.getElem?_take] at hu
          split at hu
          · rw [addr_add, Nat.zero_add, cell_of_row w g j cur T (0, 0) hg]; simpa using hu
          · cases hu
        have hrun := run_append_grow (P := P) w t ty e i z ht hi hz ⟨g, 0, none⟩ xs.length cap (xs.map (Value.int k)) (by rw [hs]; simp) holds ⟨b, o, none⟩ m c _ hl hnews (by omega) (by omega) (growslice_fits (by omega) (by rw [hby]; exact hbytes))
        have hgr := grown cap (by omega) _ rfl
        exact ⟨_, _, hrun, hgr.1, .of_below hgr.2 hB, fun _ => hgr.2⟩
/-- append(s, x...) as a lane or as a step of a tail. -/
theorem lane_appG {P : Program} {w : World} {o : Oper} {a : Act} {K : Act → World → Prop} {Q : Exit → Act → World → Prop} (s x : Tmp) (t e : Nat) (k : IntKind) (z : Value) (bytes : Nat) (ho : o.op = .call { callee := .builtin .append, args := #[.tmp s, .tmp x], argTypes := #[t, t] })
    (ht : P.underlying t = some (.slice e)) (hinf : (P.info? e).map (fun i => (i.zero, i.size, i.bytes)) = some (some z, 1, bytes)) (hzs : z.cells.size = 1) (he : spT e = false)
    {B : Nat} {v : Value} {xs ys : List Int} {A : Option Addr} {m c : Nat} (hv : a.tmps[s]?.getD undef = v) (hx : a.tmps[x]?.getD undef = .slice A m c) (hown : OwnI w B k v xs) (hr : RdI w k A ys) (hm : ys.length = m) (hB : B ≤ w.heap.size) (hbytes : (xs.length + m) * bytes ≤ 140737488355328) (h63 : xs.length + m ≤ 9223372036854775807)
    (h : ∀ v' w', OwnI w' B k v' (xs ++ ys) → RelA B xs.length w w' → (v = .slice none 0 0 → Below w.heap.size w w') → K (a.put o.dst v') w') : o.wp P a w K Q := by
  obtain ⟨i, hi, hz0, hz1, hz2⟩ := info_parts hinf
  obtain ⟨v', w', hrun, h1, h2, h3⟩ := run_app2 (P := P) (w := w) t o.type e i z k bytes ht hi hz0 hz1 hz2 hzs he hown hr hm hB hbytes h63
  have hv' : a.eval (.tmp s) = v := by show a.tmps.getD s undef = _; simpa using hv
  have hx' : a.eval (.tmp x) = .slice A m c := by show a.tmps.getD x undef = _; simpa using hx
  unfold Oper.wp execOp
  simp only [ho, resolve, invoke, builtin, Sem.run_bind, Sem.run_pure, Result.andThen_ok, List.map_toArray, List.map_cons, List.map_nil, hv', hx', hrun]
  rw [hrun]
  exact h v' w' h1 h2 h3
theorem lane_app2 {w : World} {o : Oper} {a : Act} {K : Act → World → Prop} {Q : Exit → Act → World → Prop} (s x : Tmp) (ho : o.op = .call { callee := .builtin .append, args := #[.tmp s, .tmp x], argTypes := #[22, 22] })
    {B : Nat} {v : Value} {xs ys : List Int} {A : Option Addr} {m c : Nat} (hv : a.tmps[s]?.getD undef = v) (hx : a.tmps[x]?.getD undef = .slice A m c) (hown : OwnI w B .u8 v xs) (hr : RdI w .u8 A ys) (hm : ys.length = m) (hB : B ≤ w.heap.size) (hl : xs.length + m ≤ 1000000)
    (h : ∀ v' w', OwnI w' B .u8 v' (xs ++ ys) → RelA B xs.length w w' → (v = .slice none 0 0 → Below w.heap.size w w') → K (a.put o.dst v') w') : o.wp Tryd.prog a w K Q :=
  lane_appG s x 22 5 .u8 (.int .u8 0) 1 ho Tryd.underlying22 info_u8 rfl sp_u8 hv hx hown hr hm hB (by omega) (by omega) h
end Go.Proofs.YtbfgoojpbhlboaaDoor
