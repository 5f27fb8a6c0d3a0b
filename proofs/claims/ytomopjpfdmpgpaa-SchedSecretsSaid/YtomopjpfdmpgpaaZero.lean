/- Rows of the call's own whose spare cells are zero: an append turns no cell of the table. No condition. -/
import Derived.Test.YtomopjpfdmpgpaaAwake2
set_option linter.unusedVariables false
set_option linter.unusedSimpArgs false
namespace Go.Proofs.Ytomopjpfdmpgpaa
open Go Go.RowKit Go.WideMaps

def rowZ (xs : List Int) (r : Nat) : Array Value := ((xs ++ List.replicate r 0).map (Value.int .i64)).toArray
/-- A row of the call's own; its spare cells are zero. -/
def OwnZ (w : World) (B : Nat) (v : Value) (xs : List Int) : Prop :=
  (xs = [] ∧ v = .slice none 0 0) ∨ ∃ g r t, v = .slice (some ⟨g, 0, none⟩) xs.length (xs.length + r) ∧ B ≤ g ∧ w.heap[g]? = some (.cells (rowZ xs r) t (0, 0)) ∧ spT t = false ∧ xs.length + r ≤ 9223372036854775807
theorem OwnZ.own {w : World} {B : Nat} {v : Value} {xs : List Int} (h : OwnZ w B v xs) : OwnI w B .i64 v xs := by
  rcases h with ⟨rfl, rfl⟩ | ⟨g, r, t, rfl, hb, hg, ht, hm⟩
  · exact OwnI.nil _ _ _
  · refine OwnI.new hg hb ht rfl (by omega) (by simp [rowZ]) hm ?_
    simp only [rowZ, List.map_append]
    rw [show xs.length = (xs.map (Value.int .i64)).length from by simp]
    exact List.take_left
theorem OwnZ.nil (w : World) (B : Nat) : OwnZ w B (.slice none 0 0) [] := .inl ⟨rfl, rfl⟩
theorem OwnZ.lt {w : World} {B : Nat} {v : Value} {xs : List Int} (h : OwnZ w B v xs) : ∀ q, v.ownBlock = some q → B ≤ q ∧ q < w.heap.size := h.own.lt
theorem OwnZ.frm {w w' : World} {B B' : Nat} {v : Value} {xs : List Int} (h : OwnZ w B v xs) (hf : Frm spO B' w w') : OwnZ w' B v xs := by
  rcases h with h | ⟨g, r, t, e, hb, hg, ht, hm⟩
  · exact .inl h
  · exact .inr ⟨g, r, t, e, hb, hf.block _ _ hg (.inr ht), ht, hm⟩
theorem OwnZ.below {w w' : World} {B : Nat} {v : Value} {xs : List Int} (h : OwnZ w B v xs) (hf : Below w.heap.size w w') : OwnZ w' B v xs := h.frm (B' := 0) (.of_below hf)
theorem OwnZ.plain {w : World} {B : Nat} {v : Value} {xs : List Int} (h : OwnZ w B v xs) : ∀ g, v.ownBlock = some g → ∃ cur t, w.heap[g]? = some (.cells cur t (0, 0)) ∧ spT t = false := by
  intro q hq
  rcases h with ⟨_, rfl⟩ | ⟨g, r, t, rfl, hb, hg, ht, hm⟩
  · simp [Value.ownBlock] at hq
  · simp only [Value.ownBlock, Option.some.injEq] at hq
    subst hq
    exact ⟨_, t, hg, ht⟩
/-- Only new blocks, and zeros of block own. -/
structure Zfr (own : Option Nat) (w w' : World) : Prop where
  size : w.heap.size ≤ w'.heap.size
  block : ∀ k o, w.heap[k]? = some o → some k ≠ own → w'.heap[k]? = some o
  row : ∀ g, own = some g → ∀ cur t, w.heap[g]? = some (.cells cur t (0, 0)) → ∃ cur', w'.heap[g]? = some (.cells cur' t (0, 0)) ∧ ∀ (j : Nat) (x : Int), cur[j]? = some (.int .i64 x) → x ≠ 0 → cur'[j]? = some (.int .i64 x)
theorem Zfr.of_below {own : Option Nat} {w w' : World} (h : Below w.heap.size w w') : Zfr own w w' :=
  ⟨h.size, fun k o hk _ => (h.block k (lt_of_get hk)).trans hk, fun g _ cur t hg => ⟨cur, (h.block g (lt_of_get hg)).trans hg, fun j x hj _ => hj⟩⟩
def Apart (v x : Value) : Prop := ∀ q, v.ownBlock = some q → x.ownBlock ≠ some q
theorem OwnZ.zfr {w w' : World} {B : Nat} {v x : Value} {xs : List Int} (h : OwnZ w B x xs) (hf : Zfr v.ownBlock w w') (ha : Apart v x) : OwnZ w' B x xs := by
  rcases h with h | ⟨g, r, t, rfl, hb, hg, ht, hm⟩
  · exact .inl h
  · refine .inr ⟨g, r, t, rfl, hb, hf.block _ _ hg ?_, ht, hm⟩
    intro e
    exact ha g e.symm rfl
theorem run_app_one {w : World} {B : Nat} {v : Value} {xs : List Int} (hown : OwnZ w B v xs) (y : Int) (b o c : Nat) (ty : Nat) (hc : w.cell? ⟨b, o, none⟩ = some (.int .i64 y)) (hB : B ≤ w.heap.size) (hn : xs.length ≤ 1000000) :
    ∃ v' w', (Builtin.append_ #[57, 57] ty #[v, .slice (some ⟨b, o, none⟩) 1 c]).run Try.prog w = .ok v' w' ∧ OwnZ w' B v' (xs ++ [y]) ∧ Zfr v.ownBlock w w' ∧ (v'.ownBlock = v.ownBlock ∨ v'.ownBlock = some w.heap.size) ∧ Below B w w' := by
  obtain ⟨i, hi, hz0, hz1, hz2⟩ := info_parts info_term
  have hnews : ∀ j u, ([Value.int .i64 y] : List Value)[j]? = some u → w.cell? ((⟨b, o, none⟩ : Addr).add j) = some u := by
    intro j u hu
    have hj : j = 0 := by have := (List.getElem?_eq_some_iff.1 hu).1; simpa using this
    subst hj
    simp at hu
    subst hu
    rw [addr_add, Nat.add_zero]; exact hc
  have hl : ([Value.int .i64 y] : List Value).length = 1 * i.size := by rw [hz1]; rfl
  have grown : ∀ old, old < xs.length + 1 → ∀ own W, W = w.drew.alloc (.cells ((xs.map (Value.int .i64)).toArray ++ [Value.int .i64 y].toArray ++ Builtin.zeroCells (Value.int .i64 0).cells (grownCap w (xs.length + 1) old 32 - (xs.length + 1))) 32) →
      OwnZ W B (.slice (some ⟨w.heap.size, 0, none⟩) (xs.length + 1) (grownCap w (xs.length + 1) old 32)) (xs ++ [y]) ∧ Zfr own w W ∧ Below B w W := by
    intro old ho own W hW
    have hge := grownCap_ge w (xs.length + 1) old 32
    have hcm : grownCap w (xs.length + 1) old 32 ≤ 9223372036854775807 := by
      have := grownCap_le_maxLen w (xs.length + 1) old 32 (by simp only [maxLen]; omega)
      simpa only [maxLen] using this
    have bb : Below w.heap.size w W := by rw [hW]; exact ((Below.refl _ _).drew).alloc (Nat.le_refl _) _
    refine ⟨.inr ⟨w.heap.size, grownCap w (xs.length + 1) old 32 - (xs.length + 1), 32, ?_, hB, ?_, sp_term, ?_⟩, .of_below bb, ?_⟩
    · simp only [List.length_append, List.length_cons, List.length_nil]
      rw [show xs.length + (0 + 1) + (grownCap w (xs.length + 1) old 32 - (xs.length + 1)) = grownCap w (xs.length + 1) old 32 by omega]
    · rw [hW]
      refine (heap_alloc_new w.drew _).trans ?_
      refine congrArg (fun x => some (Obj.cells x 32 (0, 0))) ?_
      apply Array.ext'
      simp only [rowZ, Array.toList_append, zeroCells_one (Value.int .i64 0) rfl, List.map_append, List.map_replicate, List.map_cons, List.map_nil]
    · simp; omega
    · rw [hW]; exact ((Below.refl _ _).drew).alloc hB _
  rcases hown with ⟨rfl, rfl⟩ | ⟨g, r, t, rfl, hb, hg, ht, hm⟩
  · have hrun := run_append_nil (P := Try.prog) w 57 ty 32 i (.int .i64 0) Try.underlying57 hi hz0 ⟨b, o, none⟩ 1 c _ hl hnews (by omega) (by omega) (by rw [hz2]; omega)
    have hgr := grown 0 (by omega) none _ rfl
    simp only [List.length_nil, Nat.zero_add, List.map_nil, List.nil_append, Array.empty_append] at hgr
    exact ⟨_, _, hrun, hgr.1, hgr.2.1, .inr rfl, hgr.2.2⟩
  · by_cases hroom : r = 0
    · subst hroom
      have holds : ∀ j u, (xs.map (Value.int .i64))[j]? = some u → w.cell? ((⟨g, 0, none⟩ : Addr).add j) = some u := by
        intro j u hu
        rw [addr_add, Nat.zero_add, cell_of_row w g j _ _ _ hg]
        simpa [rowZ] using hu
      have hrun := run_append_grow (P := Try.prog) w 57 ty 32 i (.int .i64 0) Try.underlying57 hi hz0 ⟨g, 0, none⟩ xs.length (xs.length + 0) (xs.map (Value.int .i64)) (by rw [hz1]; simp) holds ⟨b, o, none⟩ 1 c _ hl hnews (by omega) (by omega) (growslice_fits (by omega) (by rw [hz2]; omega))
      have hgr := grown (xs.length + 0) (by omega) (some g) _ rfl
      exact ⟨_, _, hrun, hgr.1, hgr.2.1, .inr rfl, hgr.2.2⟩
    · obtain ⟨r', rfl⟩ : ∃ r', r = r' + 1 := ⟨r - 1, by omega⟩
      have hrun := run_app_room (P := Try.prog) 57 ty 32 i Try.underlying57 hi hz1 g xs.length (xs.length + (r' + 1)) (rowZ xs (r' + 1)) t hg ⟨b, o, none⟩ 1 c [.int .i64 y] rfl hnews (by intro u hu; simp at hu; subst hu; rfl) (by omega) (by simp [rowZ])
      have hrow : ((rowZ xs (r' + 1)).toList.take xs.length ++ [Value.int .i64 y] ++ (rowZ xs (r' + 1)).toList.drop (xs.length + 1)).toArray = rowZ (xs ++ [y]) r' := by
        have e1 : (rowZ xs (r' + 1)).toList = xs.map (Value.int .i64) ++ (Value.int .i64 0 :: List.replicate r' (.int .i64 0)) := by simp [rowZ, List.replicate_succ]
        rw [e1]
        have e2 : List.take xs.length (xs.map (Value.int .i64) ++ (Value.int .i64 0 :: List.replicate r' (.int .i64 0))) = xs.map (Value.int .i64) := by
          rw [List.take_append_of_le_length (by simp)]; exact List.take_of_length_le (by simp)
        have e3 : List.drop (xs.length + 1) (xs.map (Value.int .i64) ++ (Value.int .i64 0 :: List.replicate r' (.int .i64 0))) = List.replicate r' (.int .i64 0) := by
          rw [List.drop_append, List.drop_eq_nil_of_le (by simp)]
          simp
        rw [e2, e3]
        simp [rowZ]
      rw [hrow] at hrun
      refine ⟨_, _, hrun, .inr ⟨g, r', t, by simp; omega, hb, setRow_heap w g _ _ t _ hg, ht, by simp; omega⟩, ⟨by simp, fun k o' hk hne => ?_, fun q hq cur t' hc' => ?_⟩, .inl rfl, ⟨rfl, rfl, rfl, by simp, fun q hq => setRow_other w g q _ (by omega)⟩⟩
      · rw [setRow_other w g k _ (fun e => hne (by rw [e]; rfl))]; exact hk
      · simp only [Value.ownBlock, Option.some.injEq] at hq
        subst hq
        rw [hg] at hc'
        cases hc'
        refine ⟨_, setRow_heap w g _ _ t _ hg, fun j x hj hx => ?_⟩
        simp only [rowZ, List.getElem?_toArray, List.getElem?_map] at hj ⊢
        have hjx : j < xs.length := by
          refine Classical.byContradiction fun hn => ?_
          rw [List.getElem?_append_right (by omega), List.getElem?_replicate] at hj
          split at hj
          · simp at hj; exact hx hj.symm
          · simp at hj
        rw [List.getElem?_append_left (by omega)] at hj
        rw [List.append_assoc, List.getElem?_append_left (by omega)]
        exact hj
theorem wp_app_one {w : World} {ops : Array Oper} {rest : List Oper} {o : Oper} {a : Act} {Q : Exit → Act → World → Prop} (hgd : o.guard = none) (s x : Operand)
    (ho : o.op = .call { callee := .builtin .append, args := #[s, x], argTypes := #[57, 57] }) {B : Nat} {v : Value} {xs : List Int} (y : Int) (b off c : Nat) (hv : a.eval s = v) (hx : a.eval x = .slice (some ⟨b, off, none⟩) 1 c)
    (hown : OwnZ w B v xs) (hc : w.cell? ⟨b, off, none⟩ = some (.int .i64 y)) (hB : B ≤ w.heap.size) (hn : xs.length ≤ 1000000)
    (h : ∀ v' w', OwnZ w' B v' (xs ++ [y]) → Zfr v.ownBlock w w' → (v'.ownBlock = v.ownBlock ∨ v'.ownBlock = some w.heap.size) → Below B w w' → wpList Try.prog ops Q rest (a.put o.dst v') w') : wpList Try.prog ops Q (o :: rest) a w := by
  obtain ⟨v', w', hrun, h1, h2, h3, h4⟩ := run_app_one hown y b off c o.type hc hB hn
  refine wpList_plain hgd fun K hK => ?_
  unfold Oper.wp execOp
  simp only [ho, resolve, invoke, builtin, Sem.run_bind, Sem.run_pure, Result.andThen_ok, List.map_toArray, List.map_cons, List.map_nil, hv, hx, hrun]
  exact hK _ _ (h v' w' h1 h2 h3 h4)
theorem IsTab.zfr {B : Nat} {w w' : World} {tb : Nat} {T : List Nd} {v : Value} (h : IsTab B w tb T) (hf : Zfr v.ownBlock w w') (hp : ∀ g, v.ownBlock = some g → ∃ cur t, w.heap[g]? = some (.cells cur t (0, 0)) ∧ spT t = false) : IsTab B w' tb T := by
  obtain ⟨h1, h2, vv, mb, es, clock, cs, g1, g2, g3, g4, g5, g6, g7⟩ := h
  have keep : ∀ k o, w.heap[k]? = some o → spO o = true → w'.heap[k]? = some o := fun k o hk hs => by
    refine hf.block k o hk fun e => ?_
    obtain ⟨cur, t, a, b⟩ := hp k e.symm
    rw [a] at hk
    cases hk
    simp [spO, b] at hs
  refine ⟨h1, h2, vv, mb, es, clock, cs, keep _ _ g1 (tabT_sp _ (by simp [tabT])), g2, keep _ _ g3 (tabT_sp _ rfl), g4, ⟨g5.1, ?_⟩, ⟨g6.kind, g6.text, fun i n hn => ?_⟩, g7⟩
  · rcases g5.2 with k | ⟨g, cap, cur, e, k1, k2, k3⟩
    · exact .inl k
    · exact .inr ⟨g, cap, cur, e, k1, keep _ _ k2 (tabT_sp _ (by simp [tabT])), k3⟩
  · obtain ⟨A, c, e1, e2⟩ := g6.parts i n hn
    refine ⟨A, c, e1, e2.len, e2.cap, e2.max, fun j hj => ?_, fun h0 a ea => ?_⟩
    · obtain ⟨b, o, rfl, hc⟩ := e2.cell.at_ (by omega)
      refine ⟨_, rfl, ?_⟩
      have hcj := hc j hj
      have hpos := ((h1.good i n hn).range _ (nth_mem hj)).1
      rw [addr_add]
      obtain ⟨hb, hs⟩ := e2.safe (by have := e2.len; omega) _ rfl
      simp only at hb hs
      obtain ⟨ob, hob⟩ : ∃ ob, w.heap[b]? = some ob := ⟨_, Array.getElem?_eq_getElem hb⟩
      by_cases hbo : v.ownBlock = some b
      · obtain ⟨cur, t, a1, a2⟩ := hp b hbo
        obtain ⟨cur', b1, b2⟩ := hf.row b hbo cur t a1
        rw [cell_of_row w b _ _ _ _ a1] at hcj
        rw [cell_of_row w' b _ _ _ _ b1]
        exact b2 _ _ hcj (by omega)
      · have := hf.block b ob hob (fun e => hbo e.symm)
        simp only [World.cell?, hob, this] at hcj ⊢
        exact hcj
    · obtain ⟨hb, hs⟩ := e2.safe h0 a ea
      refine ⟨Nat.lt_of_lt_of_le hb hf.size, hs.imp id ?_⟩
      rintro ⟨cs', t, fr, q1, q2⟩
      by_cases hbo : v.ownBlock = some a.block
      · obtain ⟨cur, t', a1, a2⟩ := hp _ hbo
        obtain ⟨cur', b1, b2⟩ := hf.row _ hbo cur t' a1
        exact ⟨cur', t', _, b1, a2⟩
      · exact ⟨cs', t, fr, hf.block _ _ q1 (fun e => hbo e.symm), q2⟩
end Go.Proofs.Ytomopjpfdmpgpaa
