/- Own texts behind the statement TokenOthersCard, one behind the other (part 3 of 4). Each bears its own remark. -/
import Derived.Lib.SlBytesConst
import Derived.LaidLaws
import Derived.LaidHandle
import Derived.Stop.Joined
import Derived.OpenShut
import Derived.Deep.RegionHeldLaw
import Derived.Test.YtmaedahleenlgaaDoorCoreTokenOthersCard2
/- Rows of the call's own whose spare cells are zero: an append turns no cell of the table. No condition. -/
set_option linter.unusedVariables false
set_option linter.unusedSimpArgs false
namespace Go.Proofs.YtmaedahleenlgaaDoor
open Go Go.RowKit Go.WideMaps

def rowZ (xs : List Int) (r : Nat) : Array Value := ((xs ++ List.replicate r 0).map (Value.int .i64)).toArray
/-- A row of the call's own; its spare cells are zero. -/
def OwnZ (w : World) (B : Nat) (v : Value) (xs : List Int) : Prop :=
  (xs = [] ∧ v = .slice none 0 0) ∨ ∃ g r t, v = .slice (some ⟨g, 0, none⟩) xs.length (xs.length + r) ∧ B ≤ g ∧ w.heap[g]? = some (.cells (rowZ xs r) t (0, 0)) ∧ spT t = false ∧ xs.length + r ≤ 9223372036854775807
theorem OwnZ.own {w : World} {B : Nat} {v : Value} {xs : List Int} (h : OwnZ w B v xs) : OwnI w B .i64 v xs := by
  rcases h with ⟨rfl, rfl⟩ | ⟨g, r, t, rfl, hb, hg, ht, hm⟩
  · exact OwnI.nil _ _ _
  · refine OwnI.new hg hb ht rfl (by omega) (by simp [rowZ]) hm ?_
    simp only [rowZ, List.map_append]
    rw [show xs.length = (xs.map (Value.int .i64)).length from by simp]
    exact List.take_left
theorem OwnZ.nil (w : World) (B : Nat) : OwnZ w B (.slice none 0 0) [] := .inl ⟨rfl, rfl⟩
theorem OwnZ.lt {w : World} {B : Nat} {v : Value} {xs : List Int} (h : OwnZ w B v xs) : ∀ q, v.ownBlock = some q → B ≤ q ∧ q < w.heap.size := h.own.lt
theorem OwnZ.frm {w w' : World} {B B' : Nat} {v : Value} {xs : List Int} (h : OwnZ w B v xs) (hf : Frm spO B' w w') : OwnZ w' B v xs := by
  rcases h with h | ⟨g, r, t, e, hb, hg, ht, hm⟩
  · exact .inl h
  · exact .inr ⟨g, r, t, e, hb, hf.block _ _ hg (.inr ht), ht, hm⟩
theorem OwnZ.below {w w' : World} {B : Nat} {v : Value} {xs : List Int} (h : OwnZ w B v xs) (hf : Below w.heap.size w w') : OwnZ w' B v xs := h.frm (B' := 0) (.of_below hf)
theorem OwnZ.plain {w : World} {B : Nat} {v : Value} {xs : List Int} (h : OwnZ w B v xs) : ∀ g, v.ownBlock = some g → ∃ cur t, w.heap[g]? = some (.cells cur t (0, 0)) ∧ spT t = false := by
  intro q hq
  rcases h with ⟨_, rfl⟩ | ⟨g, r, t, rfl, hb, hg, ht, hm⟩
  · simp [Value.ownBlock] at hq
  · simp only [Value.ownBlock, Option.some.injEq] at hq
    subst hq
    exact ⟨_, t, hg, ht⟩
/-- Only new blocks, and zeros of block own. -/
structure Zfr (own : Option Nat) (w w' : World) : Prop where
  size : w.heap.size ≤ w'.heap.size
  block : ∀ k o, w.heap[k]? = some o → some k ≠ own → w'.heap[k]? = some o
  row : ∀ g, own = some g → ∀ cur t, w.heap[g]? = some (.cells cur t (0, 0)) → ∃ cur', w'.heap[g]? = some (.cells cur' t (0, 0)) ∧ ∀ (j : Nat) (x : Int), cur[j]? = some (.int .i64 x) → x ≠ 0 → cur'[j]? = some (.int .i64 x)
theorem Zfr.of_below {own : Option Nat} {w w' : World} (h : Below w.heap.size w w') : Zfr own w w' :=
  ⟨h.size, fun k o hk _ => (h.block k (lt_of_get hk)).trans hk, fun g _ cur t hg => ⟨cur, (h.block g (lt_of_get hg)).trans hg, fun j x hj _ => hj⟩⟩
def Apart (v x : Value) : Prop := ∀ q, v.ownBlock = some q → x.ownBlock ≠ some q
theorem OwnZ.zfr {w w' : World} {B : Nat} {v x : Value} {xs : List Int} (h : OwnZ w B x xs) (hf : Zfr v.ownBlock w w') (ha : Apart v x) : OwnZ w' B x xs := by
  rcases h with h | ⟨g, r, t, rfl, hb, hg, ht, hm⟩
  · exact .inl h
  · refine .inr ⟨g, r, t, rfl, hb, hf.block _ _ hg ?_, ht, hm⟩
    intro e
    exact ha g e.symm rfl
theorem run_app_one {w : World} {B : Nat} {v : Value} {xs : List Int} (hown : OwnZ w B v xs) (y : Int) (b o c : Nat) (ty : Nat) (hc : w.cell? ⟨b, o, none⟩ = some (.int .i64 y)) (hB : B ≤ w.heap.size) (hn : xs.length ≤ 1000000) :
    ∃ v' w', (Builtin.append_ #[38, 38] ty #[v, .slice (some ⟨b, o, none⟩) 1 c]).run Tryd.prog w = .ok v' w' ∧ OwnZ w' B v' (xs ++ [y]) ∧ Zfr v.ownBlock w w' ∧ (v'.ownBlock = v.ownBlock ∨ v'.ownBlock = some w.heap.size) ∧ Below B w w' := by
  obtain ⟨i, hi, hz0, hz1, hz2⟩ := info_parts info_term
  have hnews : ∀ j u, ([Value.int .i64 y] : List Value)[j]? = some u → w.cell? ((⟨b, o, none⟩ : Addr).add j) = some u := by
    intro j u hu
    have hj : j = 0 := by have := (List.getElem?_eq_some_iff.1 hu).1; simpa using this
    subst hj
    simp at hu
    subst hu
    rw [addr_add, Nat.add_zero]; exact hc
  have hl : ([Value.int .i64 y] : List Value).length = 1 * i.size := by rw [hz1]; rfl
  have grown : ∀ old, old < xs.length + 1 → ∀ own W, W = w.drew.alloc (.cells ((xs.map (Value.int .i64)).toArray ++ [Value.int .i64 y].toArray ++ Builtin.zeroCells (Value.int .i64 0).cells (grownCap w (xs.length + 1) old 29 - (xs.length + 1))) 29) →
      OwnZ W B (.slice (some ⟨w.heap.size, 0, none⟩) (xs.length + 1) (grownCap w (xs.length + 1) old 29)) (xs ++ [y]) ∧ Zfr own w W ∧ Below B w W := by
    intro old ho own W hW
    have hge := grownCap_ge w (xs.length + 1) old 29
    have hcm : grownCap w (xs.length + 1) old 29 ≤ 9223372036854775807 := by
      have := grownCap_le_maxLen w (xs.length + 1) old 29 (by simp only [maxLen]; omega)
      simpa only [maxLen] using this
    have bb : Below w.heap.size w W := by rw [hW]; exact ((Below.refl _ _).drew).alloc (Nat.le_refl _) _
    refine ⟨.inr ⟨w.heap.size, grownCap w (xs.length + 1) old 29 - (xs.length + 1), 29, ?_, hB, ?_, sp_term, ?_⟩, .of_below bb, ?_⟩
    · simp only [List.length_append, List.length_cons, List.length_nil]
      rw [show xs.length + (0 + 1) + (grownCap w (xs.length + 1) old 29 - (xs.length + 1)) = grownCap w (xs.length + 1) old 29 by omega]
    · rw [hW]
      refine (heap_alloc_new w.drew _).trans ?_
      refine congrArg (fun x => some (Obj.cells x 29 (0, 0))) ?_
      apply Array.ext'
      simp only [rowZ, Array.toList_append, zeroCells_one (Value.int .i64 0) rfl, List.map_append, List.map_replicate, List.map_cons, List.map_nil]
    · simp; omega
    · rw [hW]; exact ((Below.refl _ _).drew).alloc hB _
  rcases hown with ⟨rfl, rfl⟩ | ⟨g, r, t, rfl, hb, hg, ht, hm⟩
  · have hrun := run_append_nil (P := Tryd.prog) w 38 ty 29 i (.int .i64 0) Tryd.underlying38 hi hz0 ⟨b, o, none⟩ 1 c _ hl hnews (by omega) (by omega) (by rw [hz2]; omega)
    have hgr := grown 0 (by omega) none _ rfl
    simp only [List.length_nil, Nat.zero_add, List.map_nil, List.nil_append, Array.empty_append] at hgr
    exact ⟨_, _, hrun, hgr.1, hgr.2.1, .inr rfl, hgr.2.2⟩
  · by_cases hroom : r = 0
    · subst hroom
      have holds : ∀ j u, (xs.map (Value.int .i64))[j]? = some u → w.cell? ((⟨g, 0, none⟩ : Addr).add j) = some u := by
        intro j u hu
        rw [addr_add, Nat.zero_add, cell_of_row w g j _ _ _ hg]
        simpa [rowZ] using hu
      have hrun := run_append_grow (P := Tryd.prog) w 38 ty 29 i (.int .i64 0) Tryd.underlying38 hi hz0 ⟨g, 0, none⟩ xs.length (xs.length + 0) (xs.map (Value.int .i64)) (by rw [hz1]; simp) holds ⟨b, o, none⟩ 1 c _ hl hnews (by omega) (by omega) (growslice_fits (by omega) (by rw [hz2]; omega))
      have hgr := grown (xs.length + 0) (by omega) (some g) _ rfl
      exact ⟨_, _, hrun, hgr.1, hgr.2.1, .inr rfl, hgr.2.2⟩
    · obtain ⟨r', rfl⟩ : ∃ r', r = r' + 1 := ⟨r - 1, by omega⟩
      have hrun := run_app_room (P := Tryd.prog) 38 ty 29 i Tryd.underlying38 hi hz1 g xs.length (xs.length + (r' + 1)) (rowZ xs (r' + 1)) t hg ⟨b, o, none⟩ 1 c [.int .i64 y] rfl hnews (by intro u hu; simp at hu; subst hu; rfl) (by omega) (by simp [rowZ])
      have hrow : ((rowZ xs (r' + 1)).toList.take xs.length ++ [Value.int .i64 y] ++ (rowZ xs (r' + 1)).toList.drop (xs.length + 1)).toArray = rowZ (xs ++ [y]) r' := by
        have e1 : (rowZ xs (r' + 1)).toList = xs.map (Value.int .i64) ++ (Value.int .i64 0 :: List.replicate r' (.int .i64 0)) := by simp [rowZ, List.replicate_succ]
        rw [e1]
        have e2 : List.take xs.length (xs.map (Value.int .i64) ++ (Value.int .i64 0 :: List.replicate r' (.int .i64 0))) = xs.map (Value.int .i64) := by
          rw [List.take_append_of_le_length (by simp)]; exact List.take_of_length_le (by simp)
        have e3 : List.drop (xs.length + 1) (xs.map (Value.int .i64) ++ (Value.int .i64 0 :: List.replicate r' (.int .i64 0))) = List.replicate r' (.int .i64 0) := by
          rw [List.drop_append, List.drop_eq_nil_of_le (by simp)]
          simp
        rw [e2, e3]
        simp [rowZ]
      rw [hrow] at hrun
      refine ⟨_, _, hrun, .inr ⟨g, r', t, by simp; omega, hb, setRow_heap w g _ _ t _ hg, ht, by simp; omega⟩, ⟨by simp, fun k o' hk hne => ?_, fun q hq cur t' hc' => ?_⟩, .inl rfl, ⟨rfl, rfl, rfl, by simp, fun q hq => setRow_other w g q _ (by omega)⟩⟩
      · rw [setRow_other w g k _ (fun e => hne (by rw [e]; rfl))]; exact hk
      · simp only [Value.ownBlock, Option.some.injEq] at hq
        subst hq
        rw [hg] at hc'
        cases hc'
        refine ⟨_, setRow_heap w g _ _ t _ hg, fun j x hj hx => ?_⟩
        simp only [rowZ, List.getElem?_toArray, List.getElem?_map] at hj ⊢
        have hjx : j < xs.length := by
          refine Classical.byContradiction fun hn => ?_
          rw [List.getElem?_append_right (by omega), List.getElem?_replicate] at hj
          split at hj
          · simp at hj; exact hx hj.symm
          · simp at hj
        rw [List.getElem?_append_left (by omega)] at hj
        rw [List.append_assoc, List.getElem?_append_left (by omega)]
        exact hj
theorem wp_app_one {w : World} {ops : Array Oper} {rest : List Oper} {o : Oper} {a : Act} {Q : Exit → Act → World → Prop} (hgd : o.guard = none) (s x : Operand)
    (ho : o.op = .call { callee := .builtin .append, args := #[s, x], argTypes := #[38, 38] }) {B : Nat} {v : Value} {xs : List Int} (y : Int) (b off c : Nat) (hv : a.eval s = v) (hx : a.eval x = .slice (some ⟨b, off, none⟩) 1 c)
    (hown : OwnZ w B v xs) (hc : w.cell? ⟨b, off, none⟩ = some (.int .i64 y)) (hB : B ≤ w.heap.size) (hn : xs.length ≤ 1000000)
    (h : ∀ v' w', OwnZ w' B v' (xs ++ [y]) → Zfr v.ownBlock w w' → (v'.ownBlock = v.ownBlock ∨ v'.ownBlock = some w.heap.size) → Below B w w' → wpList Tryd.prog ops Q rest (a.put o.dst v') w') : wpList Tryd.prog ops Q (o :: rest) a w := by
  obtain ⟨v', w', hrun, h1, h2, h3, h4⟩ := run_app_one hown y b off c o.type hc hB hn
  refine wpList_plain hgd fun K hK => ?_
  unfold Oper.wp execOp
  simp only [ho, resolve, invoke, builtin, Sem.run_bind, Sem.run_pure, Result.andThen_ok, List.map_toArray, List.map_cons, List.map_nil, hv, hx, hrun]
  exact hK _ _ (h v' w' h1 h2 h3 h4)
theorem IsTab.zfr {B : Nat} {w w' : World} {tb : Nat} {T : List Nd} {v : Value} (h : IsTab B w tb T) (hf : Zfr v.ownBlock w w') (hp : ∀ g, v.ownBlock = some g → ∃ cur t, w.heap[g]? = some (.cells cur t (0, 0)) ∧ spT t = false) : IsTab B w' tb T := by
  obtain ⟨h1, h2, vv, mb, es, clock, cs, g1, g2, g3, g4, g5, g6, g7⟩ := h
  have keep : ∀ k o, w.heap[k]? = some o → spO o = true → w'.heap[k]? = some o := fun k o hk hs => by
    refine hf.block k o hk fun e => ?_
    obtain ⟨cur, t, a, b⟩ := hp k e.symm
    rw [a] at hk
    cases hk
    simp [spO, b] at hs
  refine ⟨h1, h2, vv, mb, es, clock, cs, keep _ _ g1 (tabT_sp _ (by simp [tabT])), g2, keep _ _ g3 (tabT_sp _ rfl), g4, ⟨g5.1, ?_⟩, ⟨g6.kind, g6.text, fun i n hn => ?_⟩, g7⟩
  · rcases g5.2 with k | ⟨g, cap, cur, e, k1, k2, k3⟩
    · exact .inl k
    · exact .inr ⟨g, cap, cur, e, k1, keep _ _ k2 (tabT_sp _ (by simp [tabT])), k3⟩
  · obtain ⟨A, c, e1, e2⟩ := g6.parts i n hn
    refine ⟨A, c, e1, e2.len, e2.cap, e2.max, fun j hj => ?_, fun h0 a ea => ?_⟩
    · obtain ⟨b, o, rfl, hc⟩ := e2.cell.at_ (by omega)
      refine ⟨_, rfl, ?_⟩
      have hcj := hc j hj
      have hpos := ((h1.good i n hn).range _ (nth_mem hj)).1
      rw [addr_add]
      obtain ⟨hb, hs⟩ := e2.safe (by have := e2.len; omega) _ rfl
      simp only at hb hs
      obtain ⟨ob, hob⟩ : ∃ ob, w.heap[b]? = some ob := ⟨_, Array.getElem?_eq_getElem hb⟩
      by_cases hbo : v.ownBlock = some b
      · obtain ⟨cur, t, a1, a2⟩ := hp b hbo
        obtain ⟨cur', b1, b2⟩ := hf.row b hbo cur t a1
        rw [cell_of_row w b _ _ _ _ a1] at hcj
        rw [cell_of_row w' b _ _ _ _ b1]
        exact b2 _ _ hcj (by omega)
      · have := hf.block b ob hob (fun e => hbo e.symm)
        simp only [World.cell?, hob, this] at hcj ⊢
        exact hcj
    · obtain ⟨hb, hs⟩ := e2.safe h0 a ea
      refine ⟨Nat.lt_of_lt_of_le hb hf.size, hs.imp id ?_⟩
      rintro ⟨cs', t, fr, q1, q2⟩
      by_cases hbo : v.ownBlock = some a.block
      · obtain ⟨cur, t', a1, a2⟩ := hp _ hbo
        obtain ⟨cur', b1, b2⟩ := hf.row _ hbo cur t' a1
        exact ⟨cur', t', _, b1, a2⟩
      · exact ⟨cs', t, fr, hf.block _ _ q1 (fun e => hbo e.symm), q2⟩
end Go.Proofs.YtmaedahleenlgaaDoor

/- Plain: what is made twice has one number. No condition. -/
set_option linter.unusedVariables false
set_option linter.unusedSimpArgs false
namespace Go.Proofs.YtmaedahleenlgaaDoor
open Go Go.RowKit

theorem addT_again {T T' : List Nd} {n : Nd} {h : Int} (hw : WfT T') (e : addT T n = (T', h)) (h0 : h ≠ 0) (hk : n.kind ≠ 2) : addT T' n = (T', h) := by
  unfold addT at e
  rw [if_neg hk] at e
  split at e
  · rename_i i hi
    simp only [Prod.mk.injEq] at e
    obtain ⟨rfl, rfl⟩ := e
    unfold addT
    rw [if_neg hk, hi]
  · split at e
    · simp only [Prod.mk.injEq] at e
      exact absurd e.2.symm h0
    · simp only [Prod.mk.injEq] at e
      obtain ⟨rfl, rfl⟩ := e
      unfold addT
      rw [if_neg hk, lookT_of (i := T.length) hw (by simp) hk]
theorem addT_ext (T : List Nd) (n : Nd) : ∃ R, (addT T n).1 = T ++ R := by
  unfold addT
  split
  · exact ⟨[], by simp⟩
  · split
    · exact ⟨[], by simp⟩
    · exact ⟨[n], rfl⟩
theorem textT_again {T T' : List Nd} {b : ByteArray} {h : Int} (hw : WfT T') (e : textT T b = (T', h)) (h0 : h ≠ 0) : textT T' b = (T', h) := by
  unfold textT at e ⊢
  split at e
  · rename_i hb
    rw [if_pos hb]
    exact addT_again hw e h0 (by show (1 : Int) ≠ 2; decide)
  · simp only [Prod.mk.injEq] at e
    exact absurd e.2.symm h0
theorem makeT_again {T T' : List Nd} {k : Int} {p : List Int} {h : Int} (hT : WfT T) (hw : WfT T') (e : makeT T k p = (T', h)) (h0 : h ≠ 0) : makeT T' k p = (T', h) := by
  by_cases c1 : (0 : Int) ∈ p.map (kindT T)
  · rw [make_no1 c1] at e
    simp only [Prod.mk.injEq] at e
    exact absurd e.2.symm h0
  by_cases c2 : formedT k (p.map (kindT T)) = false
  · rw [make_no2 c2] at e
    simp only [Prod.mk.injEq] at e
    exact absurd e.2.symm h0
  have c2 : formedT k (p.map (kindT T)) = true := by simpa using c2
  rw [make_yes c1 c2] at e
  obtain ⟨R, hR⟩ := addT_ext T ⟨k, ByteArray.empty, ownT T k p⟩
  rw [e] at hR
  simp only at hR
  have hkm : p.map (kindT T') = p.map (kindT T) := by
    apply List.map_congr_left
    intro x hx
    rw [hR]
    exact kindT_mono rfl fun h => c1 (List.mem_map.2 ⟨x, hx, h⟩)
  have how : ownT T' k p = ownT T k p := by
    unfold ownT
    split
    · rename_i h8
      subst h8
      have h3 := formed8_len c2
      have hl : p.length = 2 := by simpa using h3.1
      have h7 : kindT T (nth p 1) = 7 := by
        have := h3.2.2
        rwa [nth_map (by omega)] at this
      obtain ⟨q, hq, _⟩ := public_of hT h7
      rw [hq, hR, getT_mono hq]
    · rfl
  rw [make_yes (by rw [hkm]; exact c1) (by rw [hkm]; exact c2), how]
  have hk := formed_kind c2
  exact addT_again hw e h0 (by show k ≠ 2; omega)
/-- What a step does with a table. -/
def stepT (T : List Nd) (kind : Int) (text : ByteArray) (parts : List Int) : List Nd × Int :=
  if kind = 1 then textT T text else if kind = 2 then secretT T else makeT T kind parts
theorem textT_len {T : List Nd} {b : ByteArray} : (textT T b).1.length ≤ T.length + 1 := by
  unfold textT addT
  split
  · split
    · simp
    · split <;> simp
  · simp
theorem parts_less {T : List Nd} (hw : WfT T) {h : Int} (p : Int) (hp : p ∈ (nodeT T h).parts) : 1 ≤ p ∧ p < h := by
  unfold nodeT at hp
  cases e : getT T h with
  | none => rw [e] at hp; simp at hp
  | some n =>
    rw [e] at hp
    have hr := getT_range e
    have := (hw.get e).range p (by simpa using hp)
    omega
theorem addT_range {T : List Nd} {n : Nd} (h : T.length ≤ 65536) : 0 ≤ (addT T n).2 ∧ (addT T n).2 ≤ 65536 := by
  unfold addT
  split
  · rename_i i hi
    split at hi
    · cases hi
    · have := (List.getElem?_eq_some_iff.1 (lookT_some hi)).1
      show 0 ≤ (i : Int) + 1 ∧ (i : Int) + 1 ≤ 65536
      omega
  · split
    · show (0 : Int) ≤ 0 ∧ (0 : Int) ≤ 65536
      omega
    · show 0 ≤ (T.length : Int) + 1 ∧ (T.length : Int) + 1 ≤ 65536
      omega
theorem makeT_range {T : List Nd} {k : Int} {p : List Int} (h : T.length ≤ 65536) : 0 ≤ (makeT T k p).2 ∧ (makeT T k p).2 ≤ 65536 := by
  unfold makeT
  split
  · show (0 : Int) ≤ 0 ∧ (0 : Int) ≤ 65536
    omega
  · exact addT_range h
theorem stepT_range {T : List Nd} {kind : Int} {text : ByteArray} {parts : List Int} (h : T.length ≤ 65536) : 0 ≤ (stepT T kind text parts).2 ∧ (stepT T kind text parts).2 ≤ 65536 := by
  unfold stepT
  split
  · exact textT_range h
  · split
    · exact addT_range h
    · exact makeT_range h
end Go.Proofs.YtmaedahleenlgaaDoor

/- Plain: what the terms of layers 4 and 15 are made of. No condition. -/
set_option linter.unusedVariables false
set_option linter.unusedSimpArgs false
namespace Go.Proofs.YtmaedahleenlgaaDoor
open Go Go.RowKit

/-- T' holds all of T, and at most n more. -/
def Ext (n : Nat) (T T' : List Nd) : Prop := ∃ R, T' = T ++ R ∧ R.length ≤ n
theorem Ext.refl (T : List Nd) : Ext 0 T T := ⟨[], by simp, by simp⟩
theorem Ext.trans {n m : Nat} {T T' T'' : List Nd} (h : Ext n T T') (k : Ext m T' T'') : Ext (n + m) T T'' := by
  obtain ⟨R, rfl, h2⟩ := h
  obtain ⟨S, rfl, k2⟩ := k
  exact ⟨R ++ S, by simp, by simp; omega⟩
theorem Ext.mono {n m : Nat} {T T' : List Nd} (h : Ext n T T') (hm : n ≤ m) : Ext m T T' := by
  obtain ⟨R, h1, h2⟩ := h
  exact ⟨R, h1, by omega⟩
theorem Ext.get {n : Nat} {T T' : List Nd} (h : Ext n T T') {x : Int} {m : Nd} (e : getT T x = some m) : getT T' x = some m := by
  obtain ⟨R, rfl, _⟩ := h
  exact getT_mono e
theorem Ext.len {n : Nat} {T T' : List Nd} (h : Ext n T T') : T'.length ≤ T.length + n := by
  obtain ⟨R, rfl, h2⟩ := h
  simp; omega
theorem Ext.le {n : Nat} {T T' : List Nd} (h : Ext n T T') : T.length ≤ T'.length := by
  obtain ⟨R, rfl, h2⟩ := h
  simp
/-- A number that a term has. -/
def In (T : List Nd) (x : Int) : Prop := ∃ n, getT T x = some n
theorem In.ext {n : Nat} {T T' : List Nd} {x : Int} (h : In T x) (e : Ext n T T') : In T' x := by
  obtain ⟨m, hm⟩ := h
  exact ⟨m, e.get hm⟩
theorem In.range {T : List Nd} {x : Int} (h : In T x) : 1 ≤ x ∧ x ≤ T.length := by
  obtain ⟨m, hm⟩ := h
  exact getT_range hm
theorem In.kind {T : List Nd} (hw : WfT T) {x : Int} (h : In T x) : kindT T x ≠ 0 := by
  obtain ⟨m, hm⟩ := h
  rw [kindT_get hm]
  have := (hw.get hm).kind
  omega
theorem In.of {T : List Nd} {x : Int} {m : Nd} (h : getT T x = some m) : In T x := ⟨m, h⟩
theorem kind_out {T : List Nd} {x : Int} (h : ¬ In T x) : kindT T x = 0 := by
  unfold kindT
  cases e : getT T x with
  | none => rfl
  | some n => exact absurd ⟨n, e⟩ h
theorem out_of {T : List Nd} {x : Int} (h : ¬(1 ≤ x ∧ x ≤ T.length)) : ¬ In T x := fun k => h k.range

theorem addT_ext1 (T : List Nd) (n : Nd) : Ext 1 T (addT T n).1 := by
  unfold addT
  split
  · exact ⟨[], by simp, by simp⟩
  · split
    · exact ⟨[], by simp, by simp⟩
    · exact ⟨[n], rfl, by simp⟩
theorem textT_ext (T : List Nd) (b : ByteArray) : Ext 1 T (textT T b).1 := by
  unfold textT
  split
  · exact addT_ext1 _ _
  · exact (Ext.refl _).mono (by omega)
theorem makeT_ext (T : List Nd) (k : Int) (p : List Int) : Ext 1 T (makeT T k p).1 := by
  unfold makeT
  split
  · exact (Ext.refl _).mono (by omega)
  · exact addT_ext1 _ _
theorem secretT_ext (T : List Nd) : Ext 1 T (secretT T).1 := addT_ext1 _ _
theorem text_get {T : List Nd} {b : ByteArray} (hb : b.size ≤ 2048) (hl : T.length < 65536) : getT (textT T b).1 (textT T b).2 = some (nT b) := (textT_spec hb hl).1
theorem secret_get {T : List Nd} (hl : T.length < 65536) : getT (secretT T).1 (secretT T).2 = some ⟨2, ByteArray.empty, []⟩ := (addT_spec hl).1
theorem secret_new {T : List Nd} (hl : T.length < 65536) : secretT T = (T ++ [⟨2, ByteArray.empty, []⟩], (T.length : Int) + 1) := by
  unfold secretT addT
  rw [if_pos rfl]
  simp only [if_neg (show ¬ T.length = 65536 by omega)]
theorem make_get {T : List Nd} {k : Int} {p : List Int} (h : (0 : Int) ∉ p.map (kindT T)) (h' : formedT k (p.map (kindT T)) = true) (hl : T.length < 65536) : getT (makeT T k p).1 (makeT T k p).2 = some ⟨k, ByteArray.empty, ownT T k p⟩ := by
  rw [make_yes h h']
  exact (addT_spec hl).1
theorem no_zero_in {T : List Nd} (hw : WfT T) {p : List Int} (h : ∀ x ∈ p, In T x) : (0 : Int) ∉ p.map (kindT T) := fun h0 => by
  obtain ⟨x, hx, e⟩ := List.mem_map.1 h0
  exact (h x hx).kind hw e
theorem make_row {T : List Nd} (hw : WfT T) (hl : T.length < 65536) {p : List Int} (h : ∀ x ∈ p, In T x) (hn : p.length ≤ 16) : getT (makeT T 3 p).1 (makeT T 3 p).2 = some ⟨3, ByteArray.empty, p⟩ :=
  make_get (no_zero_in hw h) (by simp [formedT]; exact hn) hl
theorem make_hash {T : List Nd} (hw : WfT T) (hl : T.length < 65536) {x : Int} (h : In T x) : getT (makeT T 4 [x]).1 (makeT T 4 [x]).2 = some ⟨4, ByteArray.empty, [x]⟩ :=
  make_get (no_zero_in hw (by simpa using h)) (by simp [formedT]) hl
theorem make_mac {T : List Nd} (hw : WfT T) (hl : T.length < 65536) {x y : Int} (hx : In T x) (hy : In T y) : getT (makeT T 5 [x, y]).1 (makeT T 5 [x, y]).2 = some ⟨5, ByteArray.empty, [x, y]⟩ :=
  make_get (no_zero_in hw (by simp; exact ⟨hx, hy⟩)) (by simp [formedT]) hl
theorem make_public {T : List Nd} (hw : WfT T) (hl : T.length < 65536) {x : Int} (h : kindT T x = 2) : getT (makeT T 7 [x]).1 (makeT T 7 [x]).2 = some ⟨7, ByteArray.empty, [x]⟩ :=
  make_get (by simp [h]) (by simp [formedT, nth, h]) hl
theorem make_shared {T : List Nd} (hw : WfT T) (hl : T.length < 65536) {x y s : Int} {n : Nd} (h : kindT T x = 2) (hy : getT T y = some n) (hk : n.kind = 7) (hs : nth n.parts 0 = s) : getT (makeT T 8 [x, y]).1 (makeT T 8 [x, y]).2 = some ⟨8, ByteArray.empty, sort2 x s⟩ := by
  have h7 : kindT T y = 7 := by rw [kindT_get hy, hk]
  have := make_get (T := T) (k := 8) (p := [x, y]) (by simp [h, h7]) (by simp [formedT, nth, h, h7]) hl
  rw [this]
  unfold ownT
  rw [if_pos rfl, show nth [x, y] 1 = y from rfl, hy]
  show some (Nd.mk 8 ByteArray.empty (sort2 x (nth n.parts 0))) = _
  rw [hs]
theorem make_sealed {T : List Nd} (hw : WfT T) (hl : T.length < 65536) {k h c : Int} {b : ByteArray} (hk : In T k) (hh : getT T h = some (nT b)) (hc : In T c) {q : Int} (hq : q = 6 ∨ q = 10) : getT (makeT T q [k, h, c]).1 (makeT T q [k, h, c]).2 = some ⟨q, ByteArray.empty, [k, h, c]⟩ := by
  have h1 : kindT T h = 1 := by rw [kindT_get hh]; rfl
  have := make_get (T := T) (k := q) (p := [k, h, c]) (no_zero_in hw (by simp; exact ⟨hk, .of hh, hc⟩)) (by rcases hq with rfl | rfl <;> simp [formedT, nth, h1]) hl
  rw [this]
  rcases hq with rfl | rfl <;> rfl

/-- What is made of a term that is none is none. -/
theorem make_out {T : List Nd} {k : Int} {p : List Int} {x : Int} (hx : x ∈ p) (h : ¬ In T x) : makeT T k p = (T, 0) := make_no1 (List.mem_map.2 ⟨x, hx, kind_out h⟩)

/-! ### Derived ones -/
def DerAt (T : List Nd) (x s : Int) (l : ByteArray) (c : Int) : Prop := ∃ ha, getT T x = some ⟨6, ByteArray.empty, [s, ha, c]⟩ ∧ getT T ha = some (nT l)
def Der0 (T : List Nd) (x s : Int) (l : ByteArray) : Prop := ∃ c, DerAt T x s l c ∧ getT T c = some (nT ByteArray.empty)
theorem DerAt.ext {n : Nat} {T T' : List Nd} {x s c : Int} {l : ByteArray} (h : DerAt T x s l c) (e : Ext n T T') : DerAt T' x s l c := by
  obtain ⟨ha, h1, h2⟩ := h
  exact ⟨ha, e.get h1, e.get h2⟩
theorem Der0.ext {n : Nat} {T T' : List Nd} {x s : Int} {l : ByteArray} (h : Der0 T x s l) (e : Ext n T T') : Der0 T' x s l := by
  obtain ⟨c, h1, h2⟩ := h
  exact ⟨c, h1.ext e, e.get h2⟩
theorem DerAt.in_ {T : List Nd} {x s c : Int} {l : ByteArray} (h : DerAt T x s l c) : In T x := by
  obtain ⟨ha, h1, h2⟩ := h
  exact ⟨_, h1⟩
theorem Der0.in_ {T : List Nd} {x s : Int} {l : ByteArray} (h : Der0 T x s l) : In T x := by
  obtain ⟨c, h1, h2⟩ := h
  exact h1.in_
theorem nT_inj {a b : ByteArray} (h : nT a = nT b) : a = b := by simpa [nT] using h
theorem getT_fun {T : List Nd} {x : Int} {m n : Nd} (h : getT T x = some m) (k : getT T x = some n) : m = n := Option.some.inj (h.symm.trans k)
theorem DerAt.inj {T : List Nd} {x s s' c c' : Int} {l l' : ByteArray} (h : DerAt T x s l c) (k : DerAt T x s' l' c') : s = s' ∧ l = l' ∧ c = c' := by
  obtain ⟨ha, h1, h2⟩ := h
  obtain ⟨ka, k1, k2⟩ := k
  have := getT_fun h1 k1
  simp only [Nd.mk.injEq, List.cons.injEq, and_true, true_and] at this
  obtain ⟨rfl, rfl, rfl⟩ := this
  exact ⟨rfl, nT_inj (getT_fun h2 k2), rfl⟩
theorem text_uniq {T : List Nd} (hw : WfT T) {x y : Int} {b : ByteArray} (h : getT T x = some (nT b)) (k : getT T y = some (nT b)) : x = y := getT_uniq hw h k (by simp [nT])
theorem DerAt.uniq {T : List Nd} (hw : WfT T) {x y s c : Int} {l : ByteArray} (h : DerAt T x s l c) (k : DerAt T y s l c) : x = y := by
  obtain ⟨ha, h1, h2⟩ := h
  obtain ⟨ka, k1, k2⟩ := k
  obtain rfl := text_uniq hw h2 k2
  exact getT_uniq hw h1 k1 (by simp)
theorem Der0.inj {T : List Nd} {x s s' : Int} {l l' : ByteArray} (h : Der0 T x s l) (k : Der0 T x s' l') : s = s' ∧ l = l' := by
  obtain ⟨c, h1, h2⟩ := h
  obtain ⟨c', k1, k2⟩ := k
  exact ⟨(h1.inj k1).1, (h1.inj k1).2.1⟩
theorem Der0.uniq {T : List Nd} (hw : WfT T) {x y s : Int} {l : ByteArray} (h : Der0 T x s l) (k : Der0 T y s l) : x = y := by
  obtain ⟨c, h1, h2⟩ := h
  obtain ⟨c', k1, k2⟩ := k
  obtain rfl := text_uniq hw h2 k2
  exact h1.uniq hw k1
theorem der_ctx {T : List Nd} {s c : Int} {l : ByteArray} (hw : WfT T) (hl : l.size ≤ 2048) (hT : T.length < 60000) (hs : In T s) (hc : In T c) :
    DerAt (deriveT T s l c).1 (deriveT T s l c).2 s l c ∧ Ext 3 T (deriveT T s l c).1 := by
  obtain ⟨ns, es⟩ := hs
  obtain ⟨nc, ec⟩ := hc
  have k1 := (hw.get es).kind
  have k3 := (hw.get ec).kind
  have hc0 := getT_range ec
  obtain ⟨ha, c', D⟩ := deriveT_spec (c := c) hl hT es (by omega) (fun _ => ec) (fun _ => by omega)
  have := D.ctx1 (by omega)
  have h1 := D.node
  rw [this] at h1
  exact ⟨⟨ha, h1, D.text⟩, D.sub⟩
theorem der_zero {T : List Nd} {s : Int} {l : ByteArray} (hw : WfT T) (hl : l.size ≤ 2048) (hT : T.length < 60000) (hs : In T s) :
    Der0 (deriveT T s l 0).1 (deriveT T s l 0).2 s l ∧ Ext 3 T (deriveT T s l 0).1 := by
  obtain ⟨ns, es⟩ := hs
  have k1 := (hw.get es).kind
  obtain ⟨ha, c', D⟩ := deriveT_spec (c := 0) (nc := ns) hl hT es (by omega) (fun h => absurd rfl h) (fun h => absurd rfl h)
  exact ⟨⟨c', ⟨ha, D.node, D.text⟩, D.ctx0 rfl⟩, D.sub⟩
theorem deriveT_ext (T : List Nd) (s : Int) (l : ByteArray) (c : Int) : Ext 3 T (deriveT T s l c).1 := by
  unfold deriveT
  have h1 : Ext 1 T (ctxT T c).1 := by
    unfold ctxT
    split
    · exact textT_ext _ _
    · exact (Ext.refl _).mono (by omega)
  exact (h1.trans (textT_ext _ _)).trans (makeT_ext _ _ _)
theorem derive_out {T : List Nd} {s c : Int} {l : ByteArray} (h : ¬ In T s) (hs : ¬ (T.length < s ∧ s ≤ T.length + 2)) : (deriveT T s l c).2 = 0 := by
  unfold deriveT
  have h1 : Ext 1 T (ctxT T c).1 := by
    unfold ctxT
    split
    · exact textT_ext _ _
    · exact (Ext.refl _).mono (by omega)
  have h2 := h1.trans (textT_ext (ctxT T c).1 l)
  have hn : ¬ In (textT (ctxT T c).1 l).1 s := fun k => by
    have := k.range
    have := h2.len
    have : ¬ (1 ≤ s ∧ s ≤ T.length) := fun q => h (by
      obtain ⟨m, hm⟩ := getT_some q.1 q.2
      exact ⟨m, hm⟩)
    omega
  rw [make_out (x := s) (by simp) hn]

/-! ### Transcripts -/
def beginT (T : List Nd) : List Nd × Int := textT T ByteArray.empty
def nextT (T : List Nd) (tr : Int) (m : ByteArray) : List Nd × Int :=
  makeT (makeT (textT T m).1 3 [tr, (textT T m).2]).1 4 [(makeT (textT T m).1 3 [tr, (textT T m).2]).2]
def NextAt (T : List Nd) (x tr : Int) (m : ByteArray) : Prop := ∃ row tx, getT T x = some ⟨4, ByteArray.empty, [row]⟩ ∧ getT T row = some ⟨3, ByteArray.empty, [tr, tx]⟩ ∧ getT T tx = some (nT m)
theorem NextAt.ext {n : Nat} {T T' : List Nd} {x tr : Int} {m : ByteArray} (h : NextAt T x tr m) (e : Ext n T T') : NextAt T' x tr m := by
  obtain ⟨row, tx, h1, h2, h3⟩ := h
  exact ⟨row, tx, e.get h1, e.get h2, e.get h3⟩
theorem NextAt.inj {T : List Nd} {x tr tr' : Int} {m m' : ByteArray} (h : NextAt T x tr m) (k : NextAt T x tr' m') : tr = tr' ∧ m = m' := by
  obtain ⟨row, tx, h1, h2, h3⟩ := h
  obtain ⟨row', tx', k1, k2, k3⟩ := k
  have e1 := getT_fun h1 k1
  simp only [Nd.mk.injEq, List.cons.injEq, and_true, true_and] at e1
  subst e1
  have e2 := getT_fun h2 k2
  simp only [Nd.mk.injEq, List.cons.injEq, and_true, true_and] at e2
  obtain ⟨rfl, rfl⟩ := e2
  exact ⟨rfl, nT_inj (getT_fun h3 k3)⟩
theorem NextAt.uniq {T : List Nd} (hw : WfT T) {x y tr : Int} {m : ByteArray} (h : NextAt T x tr m) (k : NextAt T y tr m) : x = y := by
  obtain ⟨row, tx, h1, h2, h3⟩ := h
  obtain ⟨row', tx', k1, k2, k3⟩ := k
  obtain rfl := text_uniq hw h3 k3
  obtain rfl := getT_uniq hw h2 k2 (by simp)
  exact getT_uniq hw h1 k1 (by simp)
/-- Transcript x is that behind these messages, the last one first. -/
def TrAt (T : List Nd) : Int → List ByteArray → Prop
  | x, [] => getT T x = some (nT ByteArray.empty)
  | x, m :: ms => ∃ y, TrAt T y ms ∧ NextAt T x y m
theorem TrAt.ext {n : Nat} {T T' : List Nd} (e : Ext n T T') : ∀ {ms : List ByteArray} {x : Int}, TrAt T x ms → TrAt T' x ms
  | [], _, h => e.get h
  | _ :: _, _, ⟨y, h1, h2⟩ => ⟨y, TrAt.ext e h1, h2.ext e⟩
theorem TrAt.in_ {T : List Nd} : ∀ {ms : List ByteArray} {x : Int}, TrAt T x ms → In T x
  | [], _, h => ⟨_, h⟩
  | _ :: _, _, ⟨_, _, ⟨_, _, h, _⟩⟩ => ⟨_, h⟩
theorem TrAt.inj {T : List Nd} : ∀ {ms ms' : List ByteArray} {x : Int}, TrAt T x ms → TrAt T x ms' → ms = ms'
  | [], [], _, _, _ => rfl
  | [], _ :: _, _, h, ⟨_, _, ⟨_, _, k, _⟩⟩ => by have := getT_fun h k; simp [nT] at this
  | _ :: _, [], _, ⟨_, _, ⟨_, _, k, _⟩⟩, h => by have := getT_fun h k; simp [nT] at this
  | m :: ms, m' :: ms', x, ⟨y, h1, h2⟩, ⟨y', k1, k2⟩ => by
    obtain ⟨rfl, rfl⟩ := h2.inj k2
    rw [TrAt.inj h1 k1]
theorem TrAt.uniq {T : List Nd} (hw : WfT T) : ∀ {ms : List ByteArray} {x y : Int}, TrAt T x ms → TrAt T y ms → x = y
  | [], _, _, h, k => text_uniq hw h k
  | _ :: _, _, _, ⟨y, h1, h2⟩, ⟨y', k1, k2⟩ => by
    obtain rfl := TrAt.uniq hw h1 k1
    exact h2.uniq hw k2
theorem nextT_ext (T : List Nd) (tr : Int) (m : ByteArray) : Ext 3 T (nextT T tr m).1 := ((textT_ext _ _).trans (makeT_ext _ _ _)).trans (makeT_ext _ _ _)
theorem wf_text {T : List Nd} (hw : WfT T) (b : ByteArray) : WfT (textT T b).1 := by
  unfold textT
  split
  · exact wfT_add hw (good_text T (by assumption))
  · exact hw
theorem wf_make {T : List Nd} (hw : WfT T) (k : Int) (p : List Int) : WfT (makeT T k p).1 := by
  by_cases c1 : (0 : Int) ∈ p.map (kindT T)
  · rw [make_no1 c1]; exact hw
  by_cases c2 : formedT k (p.map (kindT T)) = false
  · rw [make_no2 c2]; exact hw
  have c2 : formedT k (p.map (kindT T)) = true := by simpa using c2
  rw [make_yes c1 c2]
  exact wfT_add hw (good_make hw c1 c2)
theorem wf_secret {T : List Nd} (hw : WfT T) : WfT (secretT T).1 := wfT_add hw (good_secret T)
theorem next_spec {T : List Nd} {tr : Int} {m : ByteArray} (hw : WfT T) (hm : m.size ≤ 2048) (hT : T.length < 60000) (h : In T tr) : NextAt (nextT T tr m).1 (nextT T tr m).2 tr m := by
  have e1 := textT_ext T m
  have h1 := text_get (T := T) hm (by omega)
  have w1 := wf_text hw m
  have l1 := e1.len
  have h2 := make_row w1 (by omega) (p := [tr, (textT T m).2]) (by simp; exact ⟨h.ext e1, .of h1⟩) (by simp)
  have e2 := makeT_ext (textT T m).1 3 [tr, (textT T m).2]
  have w2 := wf_make w1 3 [tr, (textT T m).2]
  have l2 := e2.len
  have h3 := make_hash w2 (by omega) (.of h2)
  have e3 := makeT_ext (makeT (textT T m).1 3 [tr, (textT T m).2]).1 4 [(makeT (textT T m).1 3 [tr, (textT T m).2]).2]
  exact ⟨_, _, h3, e3.get h2, (e2.trans e3).get h1⟩
theorem nextT_wf {T : List Nd} (hw : WfT T) (tr : Int) (m : ByteArray) : WfT (nextT T tr m).1 := wf_make (wf_make (wf_text hw m) _ _) _ _
theorem begin_spec {T : List Nd} (hT : T.length < 60000) : TrAt (beginT T).1 (beginT T).2 [] := text_get (by decide) (by omega)
end Go.Proofs.YtmaedahleenlgaaDoor

/- Whole numbers that fit; rows of terms and constants of bytes as arguments. No condition. -/
set_option linter.unusedVariables false
set_option linter.unusedSimpArgs false
namespace Go.Proofs.YtmaedahleenlgaaDoor
open Go Go.RowKit Go.WideMaps

def Fit (x : Int) : Prop := -9223372036854775808 ≤ x ∧ x ≤ 9223372036854775807
theorem fit_of {x : Int} (h : 0 ≤ x ∧ x ≤ 65536) : Fit x := ⟨by omega, by omega⟩
theorem TabPost.of {B tb : Nat} {w w1 w' : World} {r : List Nd × Int} {e : Ending} (hf : Frm tabO B w w1) (p : TabPost B tb w1 r e w') : ∃ T h, r = (T, h) ∧ e = .returned (.int .i64 h) ∧ IsTab B w' tb T ∧ Frm tabO B w w' := ⟨r.1, r.2, rfl, p.1, p.2.1, hf.trans p.2.2⟩
theorem make_fit {B tb g t : Nat} {T : List Nd} (kind : Int) (xs : List Int) (w : World) (ht : IsTab B w tb T) (hg : w.heap.size = g) (hx : ∀ x ∈ xs, Fit x) (hn : xs.length ≤ 1000000) (cs : Array Value) (hc : cs = (xs.map (Value.int .i64)).toArray) (hs : spT t = false) (n : Nat) (hl : xs.length = n) :
    Calls Tryd.prog 35 #[.pointer (some ⟨tb, 0, none⟩), .int .i64 kind, .slice (some ⟨g, 0, none⟩) n n] (w.alloc (.cells cs t)) (TabPost B tb w (makeT T kind xs)) := make_lit kind xs w ht hg hx hn cs hc hs n hl

/-- A row of bytes just made, its cells marked or not. -/
theorem rds_marked {w : World} {B g t : Nat} {xs : List Int} (fr : Nat × Nat) (hg : w.heap.size = g) (ht : spT t = false) (cs : Array Value) (hc : cs = (xs.map (Value.int .u8)).toArray) (n : Nat) (hl : xs.length = n) (hm : n ≤ 1000000) :
    Rds B (w.alloc (.cells cs t fr)) .u8 (some ⟨g, 0, none⟩) n n xs := by
  subst hg hc hl
  have hn : (w.alloc (.cells (xs.map (Value.int .u8)).toArray t fr)).heap[w.heap.size]? = some (.cells (xs.map (Value.int .u8)).toArray t fr) := heap_alloc_new w _
  refine ⟨rfl, Nat.le_refl _, by omega, fun j hj => ⟨_, rfl, ?_⟩, fun _ a e => ?_⟩
  · rw [addr_add, Nat.zero_add, cell_of_row _ _ j _ _ _ hn]
    simp [List.getElem?_map, nth_lt hj]
  · cases e
    exact ⟨by simp, .inr ⟨_, _, _, hn, ht⟩⟩
theorem run_const_bytes (w : World) (C : Array Value) (n c : Nat) : (convert 22 22 (.slice (some ⟨w.heap.size, 0, none⟩) n c)).run Tryd.prog (w.alloc (.cells C 5)) = .ok (.slice (some ⟨w.heap.size, 0, none⟩) n c) (w.alloc (.cells C 5 (C.size, C.size + 1))) :=
  Lib.run_convert_bytes_const w 22 5 C n c Tryd.underlying22 Tryd.underlying5
end Go.Proofs.YtmaedahleenlgaaDoor

/- ticket.Issue on a table. No condition but the table of bit places. -/
set_option linter.unusedVariables false
set_option linter.unusedSimpArgs false
namespace Go.Proofs.YtmaedahleenlgaaDoor
open Go Go.RowKit Go.WideMaps

def ticketL : List Int := [116, 105, 99, 107, 101, 116]
def ticketS : ByteArray := ⟨#[116, 105, 99, 107, 101, 116]⟩
theorem ticket_str : strOfNums ticketL = ticketS := by decide
def issueT (T : List Nd) (key v t l s : Int) : List Nd × Int :=
  if sizeV v = 0 ∨ sizeV t = 0 ∨ sizeV l = 0 then (T, 0)
  else sealT (makeT (textT T (strOfNums (textV v t l))).1 3 [(textT T (strOfNums (textV v t l))).2, s]).1 key ticketS (makeT (textT T (strOfNums (textV v t l))).1 3 [(textT T (strOfNums (textV v t l))).2, s]).2

/-- A local ticket. -/
def TkAt (w : World) (g : Nat) (v t l s : Int) : Prop := w.heap[g]? = some (.cells #[.int .i64 v, .int .i64 t, .int .i64 l, .int .i64 s] 61 (0, 0))
theorem TkAt.later {w w' : World} {B g : Nat} {v t l s : Int} (h : TkAt w g v t l s) (hb : Below B w w') (hB : g < B) : TkAt w' g v t l s := (hb.block _ hB).trans h
theorem TkAt.frm {w w' : World} {B g : Nat} {v t l s : Int} (h : TkAt w g v t l s) (hf : Frm tabO B w w') : TkAt w' g v t l s := hf.block _ _ h (.inr rfl)
theorem TkAt.lt {w : World} {g : Nat} {v t l s : Int} (h : TkAt w g v t l s) : g < w.heap.size := lt_of_get h
theorem TkAt.x0 {w : World} {g : Nat} {v t l s : Int} (h : TkAt w g v t l s) : w.cell? ⟨g, 0, none⟩ = some (.int .i64 v) := by rw [cell_of_row w g 0 _ _ _ h]; rfl
theorem TkAt.x1 {w : World} {g : Nat} {v t l s : Int} (h : TkAt w g v t l s) : w.cell? ⟨g, 1, none⟩ = some (.int .i64 t) := by rw [cell_of_row w g 1 _ _ _ h]; rfl
theorem TkAt.x2 {w : World} {g : Nat} {v t l s : Int} (h : TkAt w g v t l s) : w.cell? ⟨g, 2, none⟩ = some (.int .i64 l) := by rw [cell_of_row w g 2 _ _ _ h]; rfl
theorem TkAt.x3 {w : World} {g : Nat} {v t l s : Int} (h : TkAt w g v t l s) : w.cell? ⟨g, 3, none⟩ = some (.int .i64 s) := by rw [cell_of_row w g 3 _ _ _ h]; rfl

set_option maxHeartbeats 6400000 in
set_option maxRecDepth 100000 in
theorem issue_any {B tb : Nat} {T : List Nd} (key v t l s : Int) (w : World) (ht : IsTab B w tb T) (hk : Fit key) (hs : Fit s) (hz : Tz w) :
    Calls Tryd.prog 24 #[.pointer (some ⟨tb, 0, none⟩), .int .i64 key, .agg #[.int .i64 v, .int .i64 t, .int .i64 l, .int .i64 s]] w (TabPost B tb w (issueT T key v t l s)) := by
  obtain ⟨W, hW⟩ : ∃ W, W = w.alloc (.cells #[.int .i64 v, .int .i64 t, .int .i64 l, .int .i64 s] 61) := ⟨_, rfl⟩
  have HBW : Hid (Below w.heap.size w W) := by rw [hW]; exact below_new _
  have HX : Hid (TkAt W w.heap.size v t l s) := by rw [hW]; exact heap_alloc_new w _
  have HT := Lib.hid ht
  have HTW := Lib.hid (ht.below HBW.out)
  have HZ := Lib.hid (hz.later HBW.out)
  have HFk := Lib.hid hk
  have HFs := Lib.hid hs
  have j0 : ∀ w, (Instr.index 84 (.agg #[.int .i64 v, .int .i64 t, .int .i64 l]) (.int .i64 0)).run Tryd.prog w = .ok (.int .i64 v) w := fun _ => by kernel_rfl
  have j1 : ∀ w, (Instr.index 84 (.agg #[.int .i64 v, .int .i64 t, .int .i64 l]) (.int .i64 1)).run Tryd.prog w = .ok (.int .i64 t) w := fun _ => by kernel_rfl
  have j2 : ∀ w, (Instr.index 84 (.agg #[.int .i64 v, .int .i64 t, .int .i64 l]) (.int .i64 2)).run Tryd.prog w = .ok (.int .i64 l) w := fun _ => by kernel_rfl
  have x0 := HX.out.x0
  have x1 := HX.out.x1
  have x2 := HX.out.x2
  have lW := HX.out.lt
  clear ht hk hs hz
  have key1 := vsize_any v W
  go_enter Tryd.func24, Tryd.ntmps24
  go_wp2_with fail
  rw [← hW]
  clear hW x0 x1 x2
  refine wp_loop_rounds 4 ?_
  rw [rounds_succ]
  go_wp2_with fail
  refine key1.mono ?_
  clear key1
  rintro e w1 ⟨rfl, rfl⟩
  by_cases hv : sizeV v = 0
  · have HN : Hid (issueT T key v t l s = (T, 0)) := if_pos (.inl hv)
    have hvb : (((sizeV v : Nat) : Int) == 0) = true := by rw [hv]; rfl
    clear hv
    go_wp2_with fail
    go_ret
    rw [HN.out]
    exact tabPost_same HT.out HBW.out
  have hvb : (((sizeV v : Nat) : Int) == 0) = false := by rw [beq_eq_false_iff_ne]; omega
  have HV := Lib.hid hv
  have l1 := Lib.hid (varB_len v)
  have l2 := Lib.hid (varB_len t)
  have l3 := Lib.hid (varB_len l)
  have m1 := Lib.hid (sizeV_le v)
  have m2 := Lib.hid (sizeV_le t)
  have m3 := Lib.hid (sizeV_le l)
  clear hv
  have key1 := vappend_any none 0 0 [] v W (Rds.nil 0 _ _) (by omega) HZ.out
  go_wp2_with fail
  refine key1.mono ?_
  clear key1
  rintro e w1 ⟨v1, rfl, ho, hb⟩
  rw [List.nil_append] at ho
  obtain ⟨A1, c1, rfl⟩ := ho.slice
  have HO1 := Lib.hid (ho.rds (B' := 0))
  have HX1 := Lib.hid (HX.out.later hb lW)
  have HB1 := Lib.hid (below_next HBW.out HBW.out.size hb)
  have HT1 := Lib.hid (HTW.out.below hb)
  have HZ1 := Lib.hid (HZ.out.later hb)
  have lW1 : w.heap.size < w1.heap.size := HX1.out.lt
  clear ho hb HX HTW HZ lW
  have key1 := vsize_any t w1
  go_wp2_with fail
  rw [rounds_succ]
  go_wp2_with fail
  refine key1.mono ?_
  clear key1
  rintro e w2 ⟨rfl, rfl⟩
  by_cases hv : sizeV t = 0
  · have HN : Hid (issueT T key v t l s = (T, 0)) := if_pos (.inr (.inl hv))
    have hvb' : (((sizeV t : Nat) : Int) == 0) = true := by rw [hv]; rfl
    clear hv
    go_wp2_with fail
    go_ret
    rw [HN.out]
    exact tabPost_same HT.out HB1.out
  have htb : (((sizeV t : Nat) : Int) == 0) = false := by rw [beq_eq_false_iff_ne]; omega
  have HV2 := Lib.hid hv
  clear hv
  have key1 := vappend_any A1 _ c1 (varB v) t w1 HO1.out (by have := l1.out; have := m1.out; omega) HZ1.out
  go_wp2_with fail
  refine key1.mono ?_
  clear key1
  rintro e w2 ⟨v2, rfl, ho, hb⟩
  obtain ⟨ys, hys⟩ : ∃ ys, ys = varB v ++ varB t := ⟨_, rfl⟩
  rw [← hys] at ho
  have HYS := Lib.hid hys
  have LYS : Hid (ys.length = sizeV v + sizeV t) := by show _ = _; rw [hys, List.length_append, l1.out, l2.out]
  clear hys
  obtain ⟨A2, c2, rfl⟩ := ho.slice
  have HO2 := Lib.hid (ho.rds (B' := 0))
  have HX2 := Lib.hid (HX1.out.later hb lW1)
  have HB2 := Lib.hid (below_next HB1.out HB1.out.size hb)
  have HT2 := Lib.hid (HT1.out.below hb)
  have HZ2 := Lib.hid (HZ1.out.later hb)
  have lW2 : w.heap.size < w2.heap.size := HX2.out.lt
  clear ho hb HX1 HT1 HZ1 lW1 HO1 HB1
  have key1 := vsize_any l w2
  go_wp2_with fail
  rw [rounds_succ]
  go_wp2_with fail
  refine key1.mono ?_
  clear key1
  rintro e w3 ⟨rfl, rfl⟩
  by_cases hv : sizeV l = 0
  · have HN : Hid (issueT T key v t l s = (T, 0)) := if_pos (.inr (.inr hv))
    have hvb' : (((sizeV l : Nat) : Int) == 0) = true := by rw [hv]; rfl
    clear hv
    go_wp2_with fail
    go_ret
    rw [HN.out]
    exact tabPost_same HT.out HB2.out
  have hlb : (((sizeV l : Nat) : Int) == 0) = false := by rw [beq_eq_false_iff_ne]; omega
  have HNo : Hid (¬ (sizeV v = 0 ∨ sizeV t = 0 ∨ sizeV l = 0)) := by rintro (h | h | h); exact HV.out h; exact HV2.out h; exact hv h
  have HTX : Hid (textV v t l = varB v ++ varB t ++ varB l) := textV_yes HNo.out
  clear hv
  have key1 := vappend_any A2 _ c2 ys l w2 HO2.out (by have := LYS.out; have := m1.out; have := m2.out; omega) HZ2.out
  obtain ⟨zs, hzs⟩ : ∃ zs, zs = textV v t l := ⟨_, rfl⟩
  have HZS := Lib.hid hzs
  rw [show ys ++ varB l = zs from by rw [hzs, HTX.out, HYS.out]] at key1
  clear hzs
  go_wp2_with fail
  refine key1.mono ?_
  clear key1
  rintro e w3 ⟨v3, rfl, ho, hb⟩
  obtain ⟨A3, c3, rfl⟩ := ho.slice
  have HO3 := Lib.hid (ho.rds (B' := B))
  have HX3 := Lib.hid (HX2.out.later hb lW2)
  have HB3 := Lib.hid (below_next HB2.out HB2.out.size hb)
  have HT3 := Lib.hid (HT2.out.below hb)
  have lW3 : w.heap.size < w3.heap.size := HX3.out.lt
  clear ho hb HX2 HT2 HZ2 lW2 HO2 HB2 HT
  have HTl := Lib.hid HT3.out.1.len
  go_wp2_with fail
  rw [rounds_succ]
  go_wp2_with fail
  have x3 := HX3.out.x3
  have HD : Hid (Below w3.heap.size w3 w3.drew) := (Below.refl _ _).drew
  have y3 := later_cell HD.out x3 lW3
  go_region_held3 (fun w' => w'.cell? ⟨w.heap.size, 3, none⟩ = some (.int .i64 s))
    (first
      | go_keep
      | exact y3
      | exact HX5.out.x3
      | exact HX6.out.x3) ((first
    | (go_at_call 22
       have h0 := HD
       have key1 := text_any A3 zs.length c3 zs w3.drew (HT3.out.below HD.out) (HO3.out.below HD.out)
       refine key1.mono ?_
       clear key1
       rintro e w5 p
       obtain ⟨⟨T5, h5⟩, e5⟩ : ∃ r, textT T (strOfNums zs) = r := ⟨_, rfl⟩
       obtain ⟨rfl, ht, hf⟩ := p.intro e5
       have r5 := textT_range (T := T) (b := strOfNums zs) HTl.out
       rw [e5] at r5
       have R5 := Lib.hid r5
       have E5 := Lib.hid e5
       have HX5 := Lib.hid ((HX3.out.later HD.out lW3).frm hf)
       have HF5 : Hid (Frm tabO B w w5) := ((Frm.of_below HB3.out).trans (.of_below HD.out)).trans hf
       have HT5 := Lib.hid ht
       have LT5 := Lib.hid ht.1.len
       clear h0 HD p e5 r5 ht hf HX3 HB3 HT3 HO3)
    | (go_at_call 35
       have h0 := R5
       have key1 := make_fit (g := w5.heap.size) (t := 29) 3 [h5, s] w5 HT5.out rfl (by have := R5.out; simp; exact ⟨fit_of this, HFs.out⟩) (by simp) _ rfl (by decide) 2 rfl
       refine key1.mono ?_
       clear key1
       rintro e w6 p
       obtain ⟨⟨T6, h6⟩, e6⟩ : ∃ r, makeT T5 3 [h5, s] = r := ⟨_, rfl⟩
       obtain ⟨rfl, ht, hf⟩ := p.intro e6
       have r6 := makeT_range (T := T5) (k := 3) (p := [h5, s]) LT5.out
       rw [e6] at r6
       have R6 := Lib.hid r6
       have E6 := Lib.hid e6
       have HX6 := Lib.hid (HX5.out.frm hf)
       have HF6 := Lib.hid (HF5.out.trans hf)
       have HT6 := Lib.hid ht
       clear h0 p e6 r6 ht hf HX5 HF5 HT5 R5)))
  all_goals
    rename_i hHeld
    clear hHeld x3 y3
    have hconv := Lib.hid (run_const_bytes w6 #[.int .u8 116, .int .u8 105, .int .u8 99, .int .u8 107, .int .u8 101, .int .u8 116] 6 6)
    obtain ⟨V, hW⟩ : ∃ V, V = w6.alloc (.cells #[.int .u8 116, .int .u8 105, .int .u8 99, .int .u8 107, .int .u8 101, .int .u8 116] 5 (6, 7)) := ⟨_, rfl⟩
    have hr : Rds B V .u8 (some ⟨w6.heap.size, 0, none⟩) 6 6 ticketL := by
      rw [hW]
      exact rds_marked (xs := ticketL) (t := 5) (6, 7) rfl (by decide) _ rfl 6 rfl (by decide)
    have HBV : Hid (Below w6.heap.size w6 V) := by rw [hW]; exact below_new _
    have key1 := seal_any key (some ⟨w6.heap.size, 0, none⟩) 6 6 ticketL h6 V (HT6.out.below HBV.out) HFk.out (fit_of R6.out) hr
    rw [ticket_str] at key1
    have HFV := Lib.hid (HF6.out.trans (.of_below HBV.out))
    clear hr
    go_wp2_with ((with_reducible show wpList _ _ _ (Oper.mk _ (Op.convert 22 22 _) _ _ _ _ :: _) _ _); refine wp_convert rfl _ _ _ rfl rfl hconv.out ?_)
    rw [← hW]
    clear hW hconv
    refine key1.mono ?_
    clear key1
    rintro e w7 p
    have P7 := Lib.hid (tabPost_next HFV.out p)
    obtain ⟨rfl, -, -⟩ := p
    go_wp2_with fail
    go_ret
    have HE : issueT T key v t l s = sealT T6 key ticketS h6 := by
      unfold issueT
      rw [if_neg HNo.out, ← HZS.out, E5.out]
      simp only
      rw [E6.out]
    rw [HE]
    exact P7.out
end Go.Proofs.YtmaedahleenlgaaDoor

/- ideal.Open at any term. No condition. -/
set_option linter.unusedVariables false
set_option linter.unusedSimpArgs false
namespace Go.Proofs.YtmaedahleenlgaaDoor
open Go Go.RowKit Go.WideMaps

def openV (T : List Nd) (key : Int) (hd : ByteArray) (sealed : Int) : Int × Bool := match getT T sealed with
  | some nd => if nd.kind = 10 ∧ nth nd.parts 0 = key ∧ (nodeT T (nth nd.parts 1)).text = hd then (nth nd.parts 2, true) else (0, false)
  | none => (0, false)
theorem openV_none {T : List Nd} {key sealed : Int} {hd : ByteArray} (h : getT T sealed = none) : openV T key hd sealed = (0, false) := by unfold openV; rw [h]
theorem openV_kind {T : List Nd} {key sealed : Int} {hd : ByteArray} {nd : Nd} (h : getT T sealed = some nd) (k : nd.kind ≠ 10) : openV T key hd sealed = (0, false) := by
  unfold openV; rw [h]; exact if_neg fun q => k q.1
theorem sealed_form {T : List Nd} (hw : WfT T) {sealed : Int} {nd : Nd} (h : getT T sealed = some nd) (k : nd.kind = 10) : ∃ k0 h0 m0 hd, nd = ⟨10, ByteArray.empty, [k0, h0, m0]⟩ ∧ getT T h0 = some (nT hd) := by
  have hg := hw.get h
  obtain ⟨hl, hk⟩ := hg.k6 (.inr k)
  obtain ⟨kd, tx, ps⟩ := nd
  simp only at k hl hk
  subst k
  have ht : tx = ByteArray.empty := hg.k3 (by show (10 : Int) ≠ 1; decide)
  subst ht
  match ps, hl with
  | [k0, h0, m0], _ =>
    have hk' : kindT T h0 = 1 := hk
    unfold kindT at hk'
    cases e : getT T h0 with
    | none => rw [e] at hk'; cases hk'
    | some n =>
      rw [e] at hk'
      have g1 := hw.get e
      have hp := g1.k1 hk'
      refine ⟨k0, h0, m0, n.text, rfl, ?_⟩
      obtain ⟨a, b, c⟩ := n
      simp only at hk' hp
      subst hk'
      subst hp
      exact e
theorem openV_at {T : List Nd} {key sealed k0 h0 m0 : Int} {hd s : ByteArray} (e1 : getT T sealed = some ⟨10, ByteArray.empty, [k0, h0, m0]⟩) (e2 : getT T h0 = some (nT hd)) : openV T key s sealed = openT k0 m0 key hd s := by
  unfold openV openT
  rw [e1]
  have e3 : (nodeT T h0).text = hd := by unfold nodeT; rw [e2]; rfl
  simp [nth, e3]

set_option maxHeartbeats 1600000 in
set_option maxRecDepth 100000 in
theorem open_all {B B' tb : Nat} {T : List Nd} (key sealed : Int) (A : Option Addr) (n c : Nat) (xs : List Int) (w : World) (ht : IsTab B w tb T) (hr : Rds B' w .u8 A n c xs) (hs : Fit sealed) :
    Calls Tryd.prog 15 #[.pointer (some ⟨tb, 0, none⟩), .int .i64 key, .slice A n c, .int .i64 sealed] w (OpenPost (openV T key (strOfNums xs) sealed) w) := by
  cases hg : getT T sealed with
  | none =>
    have key1 := look_any sealed w ht hs.1 hs.2
    have HE := Lib.hid (openV_none (key := key) (hd := strOfNums xs) hg)
    have HG := Lib.hid hg
    clear ht hr hs hg
    go_enter Tryd.func15, Tryd.ntmps15
    go_wp2_with fail
    refine key1.mono ?_
    clear key1
    rintro e w1 ⟨A1, c1, rfl, ho1, hb1⟩
    rw [show nodeT T sealed = ⟨0, ByteArray.empty, []⟩ from by unfold nodeT; rw [HG.out]; rfl, HG.out]
    have HB1 := Lib.hid hb1
    have hs1 := hb1.size
    clear ho1 hb1
    go_wp2_with fail
    go_returns
    rw [HE.out]
    exact ⟨rfl, HB1.out.alloc hs1 _⟩
  | some nd =>
    by_cases hk : nd.kind = 10
    · obtain ⟨k0, h0, m0, hd, rfl, e2⟩ := sealed_form ht.1 hg hk
      rw [openV_at hg e2]
      exact open_any key sealed k0 h0 m0 hd A n c xs w ht hg e2 hr
    · have key1 := look_node sealed nd w ht hg
      have HE := Lib.hid (openV_kind (key := key) (hd := strOfNums xs) hg hk)
      have hkb : (nd.kind != 10) = true := by simp [hk]
      clear ht hr hs hg hk
      go_enter Tryd.func15, Tryd.ntmps15
      go_wp2_with fail
      refine key1.mono ?_
      clear key1
      rintro e w1 ⟨A1, c1, rfl, ho1, hb1⟩
      have HB1 := Lib.hid hb1
      have hs1 := hb1.size
      clear ho1 hb1
      go_wp2_with fail
      go_returns
      rw [HE.out]
      exact ⟨rfl, HB1.out.alloc hs1 _⟩
end Go.Proofs.YtmaedahleenlgaaDoor

/- ticket.Redeem at any term. No condition. Printed by gen_redeem.py. -/
set_option linter.unusedVariables false
set_option linter.unusedSimpArgs false
namespace Go.Proofs.YtmaedahleenlgaaDoor
open Go Go.RowKit Go.WideMaps

theorem openV_range {T : List Nd} (hw : WfT T) (key sealed : Int) (hd : ByteArray) : 0 ≤ (openV T key hd sealed).1 ∧ (openV T key hd sealed).1 ≤ 65536 := by
  cases e : getT T sealed with
  | none => rw [openV_none e]; exact ⟨by decide, by decide⟩
  | some nd =>
    by_cases k : nd.kind = 10
    · obtain ⟨k0, h0, m0, hd', rfl, e2⟩ := sealed_form hw e k
      rw [openV_at e e2]
      have hg := (hw.get e).range m0 (by simp)
      have := getT_range e
      have := hw.len
      unfold openT
      split
      · show 0 ≤ m0 ∧ m0 ≤ 65536
        omega
      · exact ⟨by decide, by decide⟩
    · rw [openV_kind e k]; exact ⟨by decide, by decide⟩
theorem numsL_byt (s : ByteArray) : Byt (numsL s) := by
  intro x hx
  rw [show numsL s = s.data.toList.map fun x => (x.toNat : Int) from rfl] at hx
  obtain ⟨y, -, rfl⟩ := List.mem_map.1 hx
  have := y.toNat_lt
  omega
theorem readT_range {xs : List Int} {a b c : Int} (h : readT xs = some (a, b, c)) : (0 ≤ a ∧ a ≤ 4611686018427387903) ∧ (0 ≤ b ∧ b ≤ 4611686018427387903) ∧ (0 ≤ c ∧ c ≤ 4611686018427387903) := by
  unfold readT at h
  split at h
  · rename_i k
    simp only [Option.some.injEq, Prod.mk.injEq] at h
    obtain ⟨rfl, rfl, rfl⟩ := h
    obtain ⟨k1, k2, k3, -⟩ := k
    have f : ∀ ys : List Int, (readV ys).2.2 = 0 → 0 ≤ (readV ys).1 ∧ (readV ys).1 ≤ 4611686018427387903 := fun ys q => by
      obtain ⟨-, q2, q3⟩ := rd_ok q
      exact sizeV_pos.1 (by omega)
    exact ⟨f _ k1, f _ k2, f _ k3⟩
  · cases h
/-- What a ticket is redeemed to: its fields and an error's number. -/
def timeV (r : Option (Int × Int × Int)) (s now : Int) : (Int × Int × Int × Int) × Int := match r with
  | some (a, b, l) => if now < b ∨ l < now - b then ((0, 0, 0, 0), 9) else ((a, b, l, s), 0)
  | none => ((0, 0, 0, 0), 14)
def rowV (T : List Nd) (c now : Int) : (Int × Int × Int × Int) × Int := match getT T c with
  | some nd => if nd.kind = 3 ∧ nd.parts.length = 2 then timeV (if (nodeT T (nth nd.parts 0)).kind = 1 then readT (numsL (nodeT T (nth nd.parts 0)).text) else none) (nth nd.parts 1) now else ((0, 0, 0, 0), 14)
  | none => ((0, 0, 0, 0), 14)
def redeemV (T : List Nd) (key h now : Int) : (Int × Int × Int × Int) × Int := rowV T (openV T key ticketS h).1 now
theorem rowV_none {T : List Nd} {c now : Int} (h : getT T c = none) : rowV T c now = ((0, 0, 0, 0), 14) := by unfold rowV; rw [h]
theorem rowV_bad {T : List Nd} {c now : Int} {nd : Nd} (h : getT T c = some nd) (k : ¬ (nd.kind = 3 ∧ nd.parts.length = 2)) : rowV T c now = ((0, 0, 0, 0), 14) := by unfold rowV; rw [h]; exact if_neg k
theorem rowV_row {T : List Nd} {c now p0 p1 : Int} {tx : ByteArray} (h : getT T c = some ⟨3, tx, [p0, p1]⟩) : rowV T c now = timeV (if (nodeT T p0).kind = 1 then readT (numsL (nodeT T p0).text) else none) p1 now := by
  unfold rowV; rw [h]; exact if_pos ⟨rfl, rfl⟩
def RedeemPost (r : (Int × Int × Int × Int) × Int) (w : World) (e : Ending) (w' : World) : Prop :=
  e = .returned (.tuple #[.agg #[.int .i64 r.1.1, .int .i64 r.1.2.1, .int .i64 r.1.2.2.1, .int .i64 r.1.2.2.2], .int .i64 r.2]) ∧ Below w.heap.size w w'
theorem tk_size : (Tryd.prog.info? 61).map (·.size) = some 4 := by kernel_rfl

set_option maxHeartbeats 6400000 in
set_option maxRecDepth 100000 in
theorem redeem_any {B tb : Nat} {T : List Nd} (key h now : Int) (w : World) (ht : IsTab B w tb T) (hh : Fit h) (hnow : Fit now) :
    Calls Tryd.prog 26 #[.pointer (some ⟨tb, 0, none⟩), .int .i64 key, .int .i64 h, .int .i64 now] w (RedeemPost (redeemV T key h now) w) := by
  obtain ⟨R, hR⟩ : ∃ R, R = redeemV T key h now := ⟨_, rfl⟩
  rw [← hR]
  have HR := Lib.hid hR
  clear hR
  have HN := Lib.hid hnow
  have HWf := Lib.hid ht.1
  obtain ⟨W0, hW0⟩ : ∃ W, W = w.alloc (.cells #[.int .i64 0, .int .i64 0, .int .i64 0, .int .i64 0] 61) := ⟨_, rfl⟩
  have HB0 : Hid (Below w.heap.size w W0) := by rw [hW0]; exact below_new _
  have HG0 : Hid (TkAt W0 w.heap.size 0 0 0 0) := by rw [hW0]; exact heap_alloc_new w _
  have HS0 : Hid (W0.heap.size = w.heap.size + 1) := by rw [hW0]; show _ = _; simp
  have hcv := run_const_bytes W0 #[.int .u8 116, .int .u8 105, .int .u8 99, .int .u8 107, .int .u8 101, .int .u8 116] 6 6
  rw [HS0.out] at hcv
  rw [hW0] at hcv
  have hconv := Lib.hid hcv
  clear hcv
  obtain ⟨V, hW⟩ : ∃ V, V = (w.alloc (.cells #[.int .i64 0, .int .i64 0, .int .i64 0, .int .i64 0] 61)).alloc (.cells #[.int .u8 116, .int .u8 105, .int .u8 99, .int .u8 107, .int .u8 101, .int .u8 116] 5 (6, 7)) := ⟨_, rfl⟩
  have hr : Rds B V .u8 (some ⟨w.heap.size + 1, 0, none⟩) 6 6 ticketL := by
    rw [hW, ← hW0]
    exact rds_marked (xs := ticketL) (t := 5) (6, 7) HS0.out (by decide) _ rfl 6 rfl (by decide)
  have hBV : Below W0.heap.size W0 V := by rw [hW, ← hW0]; exact below_new _
  have HBV := Lib.hid (below_next HB0.out HB0.out.size hBV)
  have HTV := Lib.hid ((ht.below HB0.out).below hBV)
  have HGV := Lib.hid (HG0.out.later hBV HG0.out.lt)
  have key1 := open_all key h (some ⟨w.heap.size + 1, 0, none⟩) 6 6 ticketL V HTV.out hr hh
  rw [ticket_str] at key1
  clear ht hh hnow hr hBV HG0 hW0 HS0 HB0
  go_enter Tryd.func26, Tryd.ntmps26
  go_wp2_with ((with_reducible show wpList _ _ _ (Oper.mk _ (Op.convert 22 22 _) _ _ _ _ :: _) _ _); refine wp_convert rfl _ _ _ rfl rfl hconv.out ?_)
  rw [← hW]
  clear hW hconv
  refine key1.mono ?_
  clear key1
  rintro e w2 ⟨rfl, hb⟩
  obtain ⟨c, cok, hc⟩ : ∃ c ok, openV T key ticketS h = (c, ok) := ⟨_, _, rfl⟩
  have HC : Hid (R = rowV T c now) := by show _ = _; rw [HR.out]; unfold redeemV; rw [hc]
  have hcr := openV_range HWf.out key h ticketS
  rw [hc] at hcr ⊢
  simp only at hcr ⊢
  have HT2 := Lib.hid (HTV.out.below hb)
  have HG2 := Lib.hid (HGV.out.later hb HGV.out.lt)
  have HB2 := Lib.hid (below_next HBV.out HBV.out.size hb)
  have key1 := look_any c w2 HT2.out (by omega) (by omega)
  clear hc hb HTV HGV HBV HR
  go_wp2_with fail
  refine key1.mono ?_
  clear key1
  rintro e v3 ⟨P3, d3, rfl, ho3, hb3⟩
  have HG3 := Lib.hid (HG2.out.later hb3 HG2.out.lt)
  have lG3 : w.heap.size < v3.heap.size := HG3.out.lt
  cases hg : getT T c with
  | none =>
    have HE : Hid (R = ((0, 0, 0, 0), 14)) := by show _ = _; rw [HC.out]; exact rowV_none hg
    rw [show nodeT T c = ⟨0, ByteArray.empty, []⟩ from by unfold nodeT; rw [hg]; rfl]
    obtain ⟨w3, hw3⟩ : ∃ w3, w3 = v3.alloc (.cells #[.int .i64 0, .string ByteArray.empty, .slice P3 0 d3] 40) := ⟨_, rfl⟩
    have hbn : Below v3.heap.size v3 w3 := by rw [hw3]; exact below_new _
    have HG4 := Lib.hid (HG3.out.later hbn HG3.out.lt)
    have HB4 := Lib.hid (below_next HB2.out HB2.out.size (below_next hb3 hb3.size hbn))
    clear ho3 hb3 hbn hg hcr
    go_wp2_with ((with_reducible show wpList _ _ _ (Oper.mk _ (Op.store 61 _ _) _ _ _ _ :: _) _ _); (rw [← hw3]); (refine wp_store_row rfl rfl _ _ _ rfl w.heap.size _ _ 61 rfl rfl tk_size HG4.out rfl (by simp [Value.oneCell']) ?_))
    obtain ⟨u, hu⟩ : ∃ u, u = World.setRow w3 w.heap.size #[.int .i64 0, .int .i64 0, .int .i64 0, .int .i64 0] := ⟨_, rfl⟩
    rw [← hu]
    have hux : TkAt u w.heap.size 0 0 0 0 := by rw [hu]; exact setRow_heap _ w.heap.size _ _ _ _ HG4.out
    have HBu : Hid (Below w.heap.size w u) := by rw [hu]; exact below_setRow HB4.out (Nat.le_refl _) _
    have z0 := hux.x0
    have z1 := hux.x1
    have z2 := hux.x2
    have z3 := hux.x3
    clear hu hux
    refine bodyPost_ret (v := .tuple #[.agg #[.int .i64 0, .int .i64 0, .int .i64 0, .int .i64 0], .int .i64 14]) (by simp [results, Tryd.results26, go_sem, z0, z1, z2, z3]) rfl ?_
    rw [HE.out]
    exact ⟨rfl, HBu.out⟩
  | some nd =>
    rw [show nodeT T c = nd from by unfold nodeT; rw [hg]; rfl] at ho3 ⊢
    obtain ⟨w3, hw3⟩ : ∃ w3, w3 = v3.alloc (.cells #[.int .i64 nd.kind, .string nd.text, .slice P3 nd.parts.length d3] 40) := ⟨_, rfl⟩
    have hbn : Below v3.heap.size v3 w3 := by rw [hw3]; exact below_new _
    have HG4 := Lib.hid (HG3.out.later hbn HG3.out.lt)
    have HB4 := Lib.hid (below_next HB2.out HB2.out.size (below_next hb3 hb3.size hbn))
    by_cases hk : nd.kind = 3
    rotate_left
    · have HE : Hid (R = ((0, 0, 0, 0), 14)) := by show _ = _; rw [HC.out]; exact rowV_bad hg fun q => hk q.1
      have hkb : (nd.kind != 3) = true := by simp [hk]
      clear ho3 hb3 hbn hg hcr hk
      go_wp2_with ((with_reducible show wpList _ _ _ (Oper.mk _ (Op.store 61 _ _) _ _ _ _ :: _) _ _); (rw [← hw3]); (refine wp_store_row rfl rfl _ _ _ rfl w.heap.size _ _ 61 rfl rfl tk_size HG4.out rfl (by simp [Value.oneCell']) ?_))
      obtain ⟨u, hu⟩ : ∃ u, u = World.setRow w3 w.heap.size #[.int .i64 0, .int .i64 0, .int .i64 0, .int .i64 0] := ⟨_, rfl⟩
      rw [← hu]
      have hux : TkAt u w.heap.size 0 0 0 0 := by rw [hu]; exact setRow_heap _ w.heap.size _ _ _ _ HG4.out
      have HBu : Hid (Below w.heap.size w u) := by rw [hu]; exact below_setRow HB4.out (Nat.le_refl _) _
      have z0 := hux.x0
      have z1 := hux.x1
      have z2 := hux.x2
      have z3 := hux.x3
      clear hu hux
      refine bodyPost_ret (v := .tuple #[.agg #[.int .i64 0, .int .i64 0, .int .i64 0, .int .i64 0], .int .i64 14]) (by simp [results, Tryd.results26, go_sem, z0, z1, z2, z3]) rfl ?_
      rw [HE.out]
      exact ⟨rfl, HBu.out⟩
    have hkb : (nd.kind != 3) = false := by simp [hk]
    by_cases hl : nd.parts.length = 2
    rotate_left
    · have HE : Hid (R = ((0, 0, 0, 0), 14)) := by show _ = _; rw [HC.out]; exact rowV_bad hg fun q => hl q.2
      have hlb : ((nd.parts.length : Int) != 2) = true := by rw [bne_iff_ne]; omega
      clear ho3 hb3 hbn hg hcr hk hl
      go_wp2_with ((with_reducible show wpList _ _ _ (Oper.mk _ (Op.store 61 _ _) _ _ _ _ :: _) _ _); (rw [← hw3]); (refine wp_store_row rfl rfl _ _ _ rfl w.heap.size _ _ 61 rfl rfl tk_size HG4.out rfl (by simp [Value.oneCell']) ?_))
      obtain ⟨u, hu⟩ : ∃ u, u = World.setRow w3 w.heap.size #[.int .i64 0, .int .i64 0, .int .i64 0, .int .i64 0] := ⟨_, rfl⟩
      rw [← hu]
      have hux : TkAt u w.heap.size 0 0 0 0 := by rw [hu]; exact setRow_heap _ w.heap.size _ _ _ _ HG4.out
      have HBu : Hid (Below w.heap.size w u) := by rw [hu]; exact below_setRow HB4.out (Nat.le_refl _) _
      have z0 := hux.x0
      have z1 := hux.x1
      have z2 := hux.x2
      have z3 := hux.x3
      clear hu hux
      refine bodyPost_ret (v := .tuple #[.agg #[.int .i64 0, .int .i64 0, .int .i64 0, .int .i64 0], .int .i64 14]) (by simp [results, Tryd.results26, go_sem, z0, z1, z2, z3]) rfl ?_
      rw [HE.out]
      exact ⟨rfl, HBu.out⟩
    obtain ⟨kd, tx, ps⟩ := nd
    simp only at hk hl ho3 hkb hw3 ⊢
    subst hk
    match ps, hl with
    | [p0, p1], _ =>
      simp only [List.length_cons, List.length_nil, Nat.zero_add, Nat.reduceAdd] at ho3 hw3 ⊢
      obtain ⟨gp, rfl, lgp, a0, a1⟩ := two_parts ho3
      have HC2 : Hid (R = timeV (if (nodeT T p0).kind = 1 then readT (numsL (nodeT T p0).text) else none) p1 now) := by show _ = _; rw [HC.out]; exact rowV_row hg
      have hgood := HWf.out.get hg
      have hr0 := hgood.range p0 (by simp)
      have hr1 := hgood.range p1 (by simp)
      have hcl := getT_range hg
      have hTl := HWf.out.len
      have HFp : Hid (Fit p0) := ⟨by omega, by omega⟩
      have b0 := later_cell hbn a0 lgp
      have b1 := later_cell hbn a1 lgp
      have b2 : w3.cell? ⟨v3.heap.size, 2, none⟩ = some (.slice (some ⟨gp, 0, none⟩) 2 d3) := by rw [hw3]; simp [go_sem]
      have lv3 : v3.heap.size < w3.heap.size := by rw [hw3]; simp
      have lgp3 : gp < w3.heap.size := by omega
      have HT4 := Lib.hid (HT2.out.below (below_next hb3 hb3.size hbn))
      have key1 := look_any p0 w3 HT4.out HFp.out.1 HFp.out.2
      clear ho3 hb3 hbn hg hcr hgood hr0 hr1 hcl hTl HC HB2 HT2 HG2 HG3 lG3 hkb
      go_wp2_with fail
      rw [← hw3]
      clear hw3 a0 a1
      refine key1.mono ?_
      clear key1
      rintro e v4 ⟨P4, d4, rfl, ho4, hb4⟩
      obtain ⟨tn, htn⟩ : ∃ n, n = nodeT T p0 := ⟨_, rfl⟩
      rw [← htn] at ho4 ⊢
      have HC3 : Hid (R = timeV (if tn.kind = 1 then readT (numsL tn.text) else none) p1 now) := by show _ = _; rw [HC2.out, htn]
      have htx : tn.text.size ≤ 2048 := by
        rw [htn]
        unfold nodeT
        cases e : getT T p0 with
        | none => exact Nat.zero_le _
        | some n => exact (HWf.out.get e).text
      obtain ⟨w4, hw4⟩ : ∃ w4, w4 = v4.alloc (.cells #[.int .i64 tn.kind, .string tn.text, .slice P4 tn.parts.length d4] 40) := ⟨_, rfl⟩
      have hbn : Below v4.heap.size v4 w4 := by rw [hw4]; exact below_new _
      have hb5 := below_next hb4 hb4.size hbn
      replace b0 := later_cell hb5 b0 lgp3
      replace b1 := later_cell hb5 b1 lgp3
      replace b2 := later_cell hb5 b2 lv3
      have e0 : w4.cell? ⟨v4.heap.size, 0, none⟩ = some (.int .i64 tn.kind) := by rw [hw4]; simp [go_sem]
      have e1 : w4.cell? ⟨v4.heap.size, 1, none⟩ = some (.string tn.text) := by rw [hw4]; simp [go_sem]
      have lv4 : v4.heap.size < w4.heap.size := by rw [hw4]; simp
      have l3 : v3.heap.size < w4.heap.size := by have := hb5.size; omega
      have lg : gp < w4.heap.size := by have := hb5.size; omega
      have HG5 := Lib.hid (HG4.out.later hb5 HG4.out.lt)
      have HB5 := Lib.hid (below_next HB4.out HB4.out.size hb5)
      clear htn ho4 hb4 hbn hb5 HC2 HG4 HB4 HT4 lv3 lgp3 HFp
      go_wp2_with ((with_reducible show wpList _ _ _ (Oper.mk _ (Op.convert 9 22 _) _ _ _ _ :: _) _ _); refine wp_str_bytes rfl _ rfl tn.text rfl (by omega) ?_)
      intro cb w5 hrb hb
      have hS4 : v4.heap.size + 1 = w4.heap.size := by rw [hw4]; simp
      rw [← hw4, hS4] at hb
      clear hS4
      replace b0 := later_cell hb b0 lg
      replace b1 := later_cell hb b1 lg
      replace b2 := later_cell hb b2 l3
      replace e0 := later_cell hb e0 lv4
      have hs5 := hb.size
      have HG6 := Lib.hid (HG5.out.later hb HG5.out.lt)
      have HB6 := Lib.hid (below_next HB5.out HB5.out.size hb)
      have key1 := nums_any _ _ _ _ w5 (hrb B) (numsL_byt tn.text) (by omega)
      clear hrb hb HG5 HB5 hw4 e1
      go_wp2_with fail
      refine key1.mono ?_
      clear key1
      rintro e v6 ⟨na, nb, nc, ok, rfl, hyes, hno, hb⟩
      replace b1 := later_cell hb b1 (by show gp < _; omega)
      replace b2 := later_cell hb b2 (by show v3.heap.size < _; omega)
      replace e0 := later_cell hb e0 (by show v4.heap.size < _; omega)
      have hs6 := hb.size
      have HG7 := Lib.hid (HG6.out.later hb HG6.out.lt)
      have HB7 := Lib.hid (below_next HB6.out HB6.out.size hb)
      have HY := Lib.hid hyes
      have HNo := Lib.hid hno
      have q3 : v3.heap.size < v6.heap.size := by omega
      have q4 : v4.heap.size < v6.heap.size := by omega
      have qg : gp < v6.heap.size := by omega
      clear hb HG6 HB6 b0 hyes hno hs5 hs6 l3 lg lv4
      obtain ⟨w6, hw6⟩ : ∃ w6, w6 = v6.alloc (.cells #[.int .i64 na, .int .i64 nb, .int .i64 nc] 84) := ⟨_, rfl⟩
      have hbn : Below v6.heap.size v6 w6 := by rw [hw6]; exact below_new _
      have g0 : w6.cell? ⟨v6.heap.size, 0, none⟩ = some (.int .i64 na) := by rw [hw6]; simp [go_sem]
      have g1 : w6.cell? ⟨v6.heap.size, 1, none⟩ = some (.int .i64 nb) := by rw [hw6]; simp [go_sem]
      have g2 : w6.cell? ⟨v6.heap.size, 2, none⟩ = some (.int .i64 nc) := by rw [hw6]; simp [go_sem]
      have l6 : v6.heap.size < w6.heap.size := by rw [hw6]; simp
      have b1' := later_cell hbn b1 qg
      have b2' := later_cell hbn b2 q3
      have e0' := later_cell hbn e0 q4
      have HG8 := Lib.hid (HG7.out.later hbn HG7.out.lt)
      have HB8 := Lib.hid (below_next HB7.out HB7.out.size hbn)
      have r3 : v3.heap.size < w6.heap.size := by omega
      have r4 : v4.heap.size < w6.heap.size := by omega
      have rg : gp < w6.heap.size := by omega
      clear hbn HG7 HB7
      go_wp2_with fail
      rw [← hw6]
      clear hw6 b1 b2 e0 q3 q4 qg
      go_region_held3 (fun w' => (w'.cell? ⟨v6.heap.size, 0, none⟩ = some (.int .i64 na) ∧ w'.cell? ⟨v6.heap.size, 1, none⟩ = some (.int .i64 nb) ∧ w'.cell? ⟨v6.heap.size, 2, none⟩ = some (.int .i64 nc)) ∧ w'.cell? ⟨v3.heap.size, 2, none⟩ = some (.slice (some ⟨gp, 0, none⟩) 2 d3) ∧ w'.cell? ⟨gp, 1, none⟩ = some (.int .i64 p1)) (first | go_keep) ((first | fail))
      rename_i hHeld
      clear hHeld
      obtain ⟨w7, hw7⟩ : ∃ w7, w7 = (w6.alloc (.cells #[.int .i64 na, .int .i64 nb, .int .i64 nc, .int .i64 p1] 61)).drew := ⟨_, rfl⟩
      have hbn : Below w6.heap.size w6 w7 := by rw [hw7]; exact (below_new _).drew
      have HX7 : Hid (TkAt w7 w6.heap.size na nb nc p1) := by rw [hw7]; exact heap_alloc_new w6 _
      have HG9 := Lib.hid (HG8.out.later hbn HG8.out.lt)
      have HB9 := Lib.hid (below_next HB8.out HB8.out.size hbn)
      have k0 := later_cell hbn e0' r4
      have y0 := HX7.out.x0
      have y1 := HX7.out.x1
      have y2 := HX7.out.x2
      have y3 := HX7.out.x3
      rw [← hw7]
      clear hw7 hbn g0 g1 g2 l6 b1' b2' e0' HG8 HB8 r3 r4 rg htx hl
      cases ok with
      | false =>
        have HE : Hid (R = ((0, 0, 0, 0), 14)) := by
          show _ = _
          rw [HC3.out, HNo.out rfl]
          split <;> rfl
        clear HY HNo
        go_wp2_with ((with_reducible show wpList _ _ _ (Oper.mk _ (Op.store 61 _ _) _ _ _ _ :: _) _ _); (refine wp_store_row rfl rfl _ _ _ rfl w.heap.size _ _ 61 rfl rfl tk_size HG9.out rfl (by simp [Value.oneCell']) ?_))
        obtain ⟨u, hu⟩ : ∃ u, u = World.setRow w7 w.heap.size #[.int .i64 0, .int .i64 0, .int .i64 0, .int .i64 0] := ⟨_, rfl⟩
        rw [← hu]
        have hux : TkAt u w.heap.size 0 0 0 0 := by rw [hu]; exact setRow_heap _ w.heap.size _ _ _ _ HG9.out
        have HBu : Hid (Below w.heap.size w u) := by rw [hu]; exact below_setRow HB9.out (Nat.le_refl _) _
        have z0 := hux.x0
        have z1 := hux.x1
        have z2 := hux.x2
        have z3 := hux.x3
        clear hu hux
        refine bodyPost_ret (v := .tuple #[.agg #[.int .i64 0, .int .i64 0, .int .i64 0, .int .i64 0], .int .i64 14]) (by simp [results, Tryd.results26, go_sem, z0, z1, z2, z3]) rfl ?_
        rw [HE.out]
        exact ⟨rfl, HBu.out⟩
      | true =>
        have HV := Lib.hid (HY.out rfl)
        clear HY HNo
        by_cases hk1 : tn.kind = 1
        rotate_left
        · have HE : Hid (R = ((0, 0, 0, 0), 14)) := by show _ = _; rw [HC3.out, if_neg hk1]; rfl
          have hkb : (tn.kind != 1) = true := by simp [hk1]
          clear hk1
          go_wp2_with ((with_reducible show wpList _ _ _ (Oper.mk _ (Op.store 61 _ _) _ _ _ _ :: _) _ _); (refine wp_store_row rfl rfl _ _ _ rfl w.heap.size _ _ 61 rfl rfl tk_size HG9.out rfl (by simp [Value.oneCell']) ?_))
          obtain ⟨u, hu⟩ : ∃ u, u = World.setRow w7 w.heap.size #[.int .i64 0, .int .i64 0, .int .i64 0, .int .i64 0] := ⟨_, rfl⟩
          rw [← hu]
          have hux : TkAt u w.heap.size 0 0 0 0 := by rw [hu]; exact setRow_heap _ w.heap.size _ _ _ _ HG9.out
          have HBu : Hid (Below w.heap.size w u) := by rw [hu]; exact below_setRow HB9.out (Nat.le_refl _) _
          have z0 := hux.x0
          have z1 := hux.x1
          have z2 := hux.x2
          have z3 := hux.x3
          clear hu hux
          refine bodyPost_ret (v := .tuple #[.agg #[.int .i64 0, .int .i64 0, .int .i64 0, .int .i64 0], .int .i64 14]) (by simp [results, Tryd.results26, go_sem, z0, z1, z2, z3]) rfl ?_
          rw [HE.out]
          exact ⟨rfl, HBu.out⟩
        have hkb : (tn.kind != 1) = false := by simp [hk1]
        have HC4 : Hid (R = timeV (some (na, nb, nc)) p1 now) := by show _ = _; rw [HC3.out, if_pos hk1, HV.out]
        have hrg := readT_range HV.out
        have hb0 := hrg.2.1.1
        have hb1 := hrg.2.1.2
        have hn1 := HN.out.2
        clear hk1 hrg HC3
        by_cases ht1 : now < nb
        · have HE : Hid (R = ((0, 0, 0, 0), 9)) := by show _ = _; rw [HC4.out]; exact if_pos (.inl ht1)
          go_wp2_with ((with_reducible show wpList _ _ _ (Oper.mk _ (Op.store 61 _ _) _ _ _ _ :: _) _ _); (refine wp_store_row rfl rfl _ _ _ rfl w.heap.size _ _ 61 rfl rfl tk_size HG9.out rfl (by simp [Value.oneCell']) ?_))
          obtain ⟨u, hu⟩ : ∃ u, u = World.setRow w7 w.heap.size #[.int .i64 0, .int .i64 0, .int .i64 0, .int .i64 0] := ⟨_, rfl⟩
          rw [← hu]
          have hux : TkAt u w.heap.size 0 0 0 0 := by rw [hu]; exact setRow_heap _ w.heap.size _ _ _ _ HG9.out
          have HBu : Hid (Below w.heap.size w u) := by rw [hu]; exact below_setRow HB9.out (Nat.le_refl _) _
          have z0 := hux.x0
          have z1 := hux.x1
          have z2 := hux.x2
          have z3 := hux.x3
          clear hu hux
          refine bodyPost_ret (v := .tuple #[.agg #[.int .i64 0, .int .i64 0, .int .i64 0, .int .i64 0], .int .i64 9]) (by simp [results, Tryd.results26, go_sem, z0, z1, z2, z3]) rfl ?_
          rw [HE.out]
          exact ⟨rfl, HBu.out⟩
        have hsub : IntKind.i64.wrap (now - nb) = now - nb := by rw [IntKind.wrap_i64]; omega
        by_cases ht2 : nc < now - nb
        · have HE : Hid (R = ((0, 0, 0, 0), 9)) := by show _ = _; rw [HC4.out]; exact if_pos (.inr ht2)
          go_wp2_with ((with_reducible show wpList _ _ _ (Oper.mk _ (Op.store 61 _ _) _ _ _ _ :: _) _ _); (refine wp_store_row rfl rfl _ _ _ rfl w.heap.size _ _ 61 rfl rfl tk_size HG9.out rfl (by simp [Value.oneCell']) ?_))
          obtain ⟨u, hu⟩ : ∃ u, u = World.setRow w7 w.heap.size #[.int .i64 0, .int .i64 0, .int .i64 0, .int .i64 0] := ⟨_, rfl⟩
          rw [← hu]
          have hux : TkAt u w.heap.size 0 0 0 0 := by rw [hu]; exact setRow_heap _ w.heap.size _ _ _ _ HG9.out
          have HBu : Hid (Below w.heap.size w u) := by rw [hu]; exact below_setRow HB9.out (Nat.le_refl _) _
          have z0 := hux.x0
          have z1 := hux.x1
          have z2 := hux.x2
          have z3 := hux.x3
          clear hu hux
          refine bodyPost_ret (v := .tuple #[.agg #[.int .i64 0, .int .i64 0, .int .i64 0, .int .i64 0], .int .i64 9]) (by simp [results, Tryd.results26, go_sem, z0, z1, z2, z3]) rfl ?_
          rw [HE.out]
          exact ⟨rfl, HBu.out⟩
        have HE : Hid (R = ((na, nb, nc, p1), 0)) := by show _ = _; rw [HC4.out]; exact if_neg (by omega)
        go_wp2_with ((with_reducible show wpList _ _ _ (Oper.mk _ (Op.store 61 _ _) _ _ _ _ :: _) _ _); (refine wp_store_row rfl rfl _ _ _ rfl w.heap.size _ _ 61 rfl rfl tk_size HG9.out rfl (by simp [Value.oneCell']) ?_))
        obtain ⟨u, hu⟩ : ∃ u, u = World.setRow w7 w.heap.size #[.int .i64 na, .int .i64 nb, .int .i64 nc, .int .i64 p1] := ⟨_, rfl⟩
        rw [← hu]
        have hux : TkAt u w.heap.size na nb nc p1 := by rw [hu]; exact setRow_heap _ w.heap.size _ _ _ _ HG9.out
        have HBu : Hid (Below w.heap.size w u) := by rw [hu]; exact below_setRow HB9.out (Nat.le_refl _) _
        have z0 := hux.x0
        have z1 := hux.x1
        have z2 := hux.x2
        have z3 := hux.x3
        clear hu hux
        refine bodyPost_ret (v := .tuple #[.agg #[.int .i64 na, .int .i64 nb, .int .i64 nc, .int .i64 p1], .int .i64 0]) (by simp [results, Tryd.results26, go_sem, z0, z1, z2, z3]) rfl ?_
        rw [HE.out]
        exact ⟨rfl, HBu.out⟩

end Go.Proofs.YtmaedahleenlgaaDoor

/- What an issued ticket is, and what it is redeemed to. Plain. -/
set_option linter.unusedVariables false
set_option linter.unusedSimpArgs false
namespace Go.Proofs.YtmaedahleenlgaaDoor
open Go Go.RowKit

theorem numsL_str {xs : List Int} (h : Byt xs) : numsL (strOfNums xs) = xs := by
  have e : numsL (strOfNums xs) = xs.map fun n => ((UInt8.ofNat n.toNat).toNat : Int) := by simp [numsL, strOfNums]
  rw [e]
  conv => rhs; rw [← List.map_id xs]
  apply List.map_congr_left
  intro x hx
  have := h x hx
  simp
  omega
/-- A row of a text and a term, and its sealing. -/
def rowT (T : List Nd) (b : ByteArray) (s : Int) : List Nd × Int := makeT (textT T b).1 3 [(textT T b).2, s]
def tickT (T : List Nd) (key : Int) (b : ByteArray) (s : Int) : List Nd × Int := sealT (rowT T b s).1 key ticketS (rowT T b s).2
theorem issueT_yes {T : List Nd} {key v t l s : Int} (h : ¬ (sizeV v = 0 ∨ sizeV t = 0 ∨ sizeV l = 0)) : issueT T key v t l s = tickT T key (strOfNums (textV v t l)) s := if_neg h
theorem issueT_no {T : List Nd} {key v t l s : Int} (h : sizeV v = 0 ∨ sizeV t = 0 ∨ sizeV l = 0) : issueT T key v t l s = (T, 0) := if_pos h
def SealAt (T : List Nd) (x key : Int) (hd : ByteArray) (c : Int) : Prop := ∃ h0, getT T x = some ⟨10, ByteArray.empty, [key, h0, c]⟩ ∧ getT T h0 = some (nT hd)
theorem SealAt.ext {n : Nat} {T T' : List Nd} {x key c : Int} {hd : ByteArray} (h : SealAt T x key hd c) (e : Ext n T T') : SealAt T' x key hd c := by
  obtain ⟨h0, h1, h2⟩ := h
  exact ⟨h0, e.get h1, e.get h2⟩
theorem SealAt.in_ {T : List Nd} {x key c : Int} {hd : ByteArray} (h : SealAt T x key hd c) : In T x := by
  obtain ⟨h0, h1, h2⟩ := h
  exact ⟨_, h1⟩
theorem SealAt.open_ {T : List Nd} {x key c key' : Int} {hd hd' : ByteArray} (h : SealAt T x key hd c) : openV T key' hd' x = openT key c key' hd hd' := by
  obtain ⟨h0, h1, h2⟩ := h
  exact openV_at h1 h2
theorem sealT_ext (T : List Nd) (k : Int) (hd : ByteArray) (c : Int) : Ext 2 T (sealT T k hd c).1 := (textT_ext _ _).trans (makeT_ext _ _ _)
theorem seal_at {T : List Nd} {k c : Int} {hd : ByteArray} (hw : WfT T) (hl : hd.size ≤ 2048) (hT : T.length < 50000) (hk : In T k) (hc : In T c) : SealAt (sealT T k hd c).1 (sealT T k hd c).2 k hd c := by
  obtain ⟨n1, e1⟩ := hk
  obtain ⟨n2, e2⟩ := hc
  have g1 := (hw.get e1).kind
  have g2 := (hw.get e2).kind
  exact sealT_spec hl (by omega) e1 (by omega) e2 (by omega)
theorem row_at {T : List Nd} {b : ByteArray} {s : Int} (hw : WfT T) (hb : b.size ≤ 2048) (hT : T.length < 50000) (hs : In T s) : ∃ tx, getT (rowT T b s).1 (rowT T b s).2 = some ⟨3, ByteArray.empty, [tx, s]⟩ ∧ getT (rowT T b s).1 tx = some (nT b) ∧ Ext 2 T (rowT T b s).1 ∧ WfT (rowT T b s).1 := by
  have k1 := text_get (T := T) (b := b) hb (by omega)
  have x1 := textT_ext T b
  have w1 := wf_text hw b
  have l1 := x1.len
  unfold rowT
  generalize (textT T b).1 = T1 at *
  generalize (textT T b).2 = tx at *
  have k2 := make_row w1 (by omega) (p := [tx, s]) (by simp; exact ⟨.of k1, hs.ext x1⟩) (by simp)
  have x2 := makeT_ext T1 3 [tx, s]
  exact ⟨tx, k2, x2.get k1, x1.trans x2, wf_make w1 3 [tx, s]⟩
/-- All that is known of a sealed row. -/
structure TickAt (T : List Nd) (h key : Int) (b : ByteArray) (s row tx : Int) : Prop where
  sl : SealAt T h key ticketS row
  row : getT T row = some ⟨3, ByteArray.empty, [tx, s]⟩
  text : getT T tx = some (nT b)
theorem TickAt.ext {n : Nat} {T T' : List Nd} {h key s row tx : Int} {b : ByteArray} (a : TickAt T h key b s row tx) (e : Ext n T T') : TickAt T' h key b s row tx := ⟨a.sl.ext e, e.get a.row, e.get a.text⟩
theorem tick_at {T : List Nd} {key s : Int} {b : ByteArray} (hw : WfT T) (hb : b.size ≤ 2048) (hT : T.length < 40000) (hk : In T key) (hs : In T s) :
    ∃ row tx, TickAt (tickT T key b s).1 (tickT T key b s).2 key b s row tx ∧ Ext 4 T (tickT T key b s).1 := by
  obtain ⟨tx, r1, r2, x1, w1⟩ := row_at (b := b) (s := s) hw hb (by omega) hs
  have l1 := x1.len
  unfold tickT
  have sa := seal_at (hd := ticketS) w1 (by decide) (by omega) (hk.ext x1) (.of r1)
  have x2 := sealT_ext (rowT T b s).1 key ticketS (rowT T b s).2
  exact ⟨_, tx, ⟨sa, x2.get r1, x2.get r2⟩, x1.trans x2⟩
theorem TickAt.redeem {T : List Nd} {h key s row tx now : Int} {b : ByteArray} (a : TickAt T h key b s row tx) : redeemV T key h now = timeV (readT (numsL b)) s now := by
  unfold redeemV
  rw [a.sl.open_]
  have e : openT key row key ticketS ticketS = (row, true) := if_pos ⟨rfl, rfl⟩
  rw [e]
  show rowV T row now = _
  rw [rowV_row a.row]
  have e2 : nodeT T tx = nT b := by unfold nodeT; rw [a.text]; rfl
  rw [e2]
  exact congrArg (fun r => timeV r s now) (if_pos rfl)
theorem TickAt.pos {T : List Nd} {h key s row tx : Int} {b : ByteArray} (a : TickAt T h key b s row tx) : h ≠ 0 := by
  have := a.sl.in_.range
  omega
theorem text_size {v t l : Int} : (strOfNums (textV v t l)).size ≤ 24 := by
  rw [strOfNums_size]
  by_cases h : sizeV v = 0 ∨ sizeV t = 0 ∨ sizeV l = 0
  · rw [textV_no h]; simp
  · rw [textV_len h]
    have := sizeV_le v
    have := sizeV_le t
    have := sizeV_le l
    omega
theorem issue_at {T : List Nd} {key v t l s : Int} (hw : WfT T) (hT : T.length < 40000) (hk : In T key) (hs : In T s) (h : ¬ (sizeV v = 0 ∨ sizeV t = 0 ∨ sizeV l = 0)) :
    ∃ row tx, TickAt (issueT T key v t l s).1 (issueT T key v t l s).2 key (strOfNums (textV v t l)) s row tx ∧ Ext 4 T (issueT T key v t l s).1 := by
  rw [issueT_yes h]
  exact tick_at hw (by have := text_size (v := v) (t := t) (l := l); omega) hT hk hs
theorem TickAt.redeemN {T : List Nd} {h key s row tx now v t l : Int} (hs : ¬ (sizeV v = 0 ∨ sizeV t = 0 ∨ sizeV l = 0)) (a : TickAt T h key (strOfNums (textV v t l)) s row tx) : redeemV T key h now = timeV (some (v, t, l)) s now := by
  rw [a.redeem, numsL_str (textV_byt v t l), readT_textV hs]
end Go.Proofs.YtmaedahleenlgaaDoor

/- What a minted token is, and what it is looked at as (layer 16). Plain. -/
set_option linter.unusedVariables false
set_option linter.unusedSimpArgs false
namespace Go.Proofs.YtmaedahleenlgaaDoor
open Go Go.RowKit

def tokenL : List Int := [116, 111, 107, 101, 110]
def tokenS : ByteArray := ⟨#[116, 111, 107, 101, 110]⟩
theorem token_str : strOfNums tokenL = tokenS := by decide
/-- The sealing of some bytes as a token. -/
def tokT (T : List Nd) (key : Int) (b : ByteArray) : List Nd × Int := sealT (textT T b).1 key tokenS (textT T b).2
def mintT (T : List Nd) (key : Int) (x : Tok) : List Nd × Int := if badTok x then (T, 0) else tokT T key (strOfNums (tokB x))
theorem mintT_no {T : List Nd} {key : Int} {x : Tok} (h : badTok x) : mintT T key x = (T, 0) := if_pos h
theorem mintT_yes {T : List Nd} {key : Int} {x : Tok} (h : ¬ badTok x) : mintT T key x = tokT T key (strOfNums (tokB x)) := if_neg h
/-- What a term's text says. -/
def nodeK (n : Nd) : Option Tok := if n.kind = 1 then readK (numsL n.text) else none
def lookK (T : List Nd) (key h : Int) : Option Tok := nodeK (nodeT T (openV T key tokenS h).1)
def lookE (T : List Nd) (key h : Int) : Int := if (lookK T key h).isSome then 0 else 14
def lookX (T : List Nd) (key h : Int) : Tok := (lookK T key h).getD tok0
/-- A check's answer. -/
def checkE (r : Option Tok) (addr now life : Int) : Int := match r with | some x => rightK x addr now life | none => 14
def checkX (r : Option Tok) (addr now life : Int) : Tok := if checkE r addr now life = 0 then r.getD tok0 else tok0
/-- All that is known of a sealed text. -/
structure TokAt (T : List Nd) (h key : Int) (b : ByteArray) (tx : Int) : Prop where
  sl : SealAt T h key tokenS tx
  text : getT T tx = some (nT b)
theorem TokAt.ext {n : Nat} {T T' : List Nd} {h key tx : Int} {b : ByteArray} (a : TokAt T h key b tx) (e : Ext n T T') : TokAt T' h key b tx := ⟨a.sl.ext e, e.get a.text⟩
theorem tok_at {T : List Nd} {key : Int} {b : ByteArray} (hw : WfT T) (hb : b.size ≤ 2048) (hT : T.length < 40000) (hk : In T key) :
    ∃ tx, TokAt (tokT T key b).1 (tokT T key b).2 key b tx ∧ Ext 3 T (tokT T key b).1 ∧ WfT (textT T b).1 := by
  have k1 := text_get (T := T) (b := b) hb (by omega)
  have x1 := textT_ext T b
  have w1 := wf_text hw b
  have l1 := x1.len
  unfold tokT
  generalize (textT T b).1 = T1 at *
  generalize (textT T b).2 = tx at *
  have sa := seal_at (hd := tokenS) w1 (by decide) (by omega) (hk.ext x1) (.of k1)
  have x2 := sealT_ext T1 key tokenS tx
  exact ⟨tx, ⟨sa, x2.get k1⟩, x1.trans x2, w1⟩
theorem TokAt.look {T : List Nd} {h key tx : Int} {b : ByteArray} (a : TokAt T h key b tx) : lookK T key h = readK (numsL b) := by
  unfold lookK
  rw [a.sl.open_]
  have e : openT key tx key tokenS tokenS = (tx, true) := if_pos ⟨rfl, rfl⟩
  rw [e]
  have e2 : nodeT T tx = nT b := by unfold nodeT; rw [a.text]; rfl
  show nodeK (nodeT T tx) = _
  rw [e2]
  exact if_pos rfl
theorem TokAt.pos {T : List Nd} {h key tx : Int} {b : ByteArray} (a : TokAt T h key b tx) : h ≠ 0 := by
  have := a.sl.in_.range
  omega
theorem mint_at {T : List Nd} {key : Int} {x : Tok} (hw : WfT T) (hT : T.length < 40000) (hk : In T key) (h : ¬ badTok x) :
    ∃ tx, TokAt (mintT T key x).1 (mintT T key x).2 key (strOfNums (tokB x)) tx ∧ Ext 3 T (mintT T key x).1 := by
  rw [mintT_yes h]
  obtain ⟨tx, a, b, -⟩ := tok_at (b := strOfNums (tokB x)) hw (by rw [strOfNums_size]; have := tokB_len h; omega) hT hk
  exact ⟨tx, a, b⟩
theorem TokAt.lookN {T : List Nd} {h key tx : Int} {x : Tok} (hx : ¬ badTok x) (hb : Byt x.name) (a : TokAt T h key (strOfNums (tokB x)) tx) : lookK T key h = some x := by
  rw [a.look, numsL_str (tokB_byt hb), readK_tokB hx]
/-- Two sealed texts are one term just if their bytes are the same. -/
theorem TokAt.same {T : List Nd} (hw : WfT T) {h h' key tx tx' : Int} {b b' : ByteArray} (a : TokAt T h key b tx) (a' : TokAt T h' key b' tx') : h = h' ↔ b = b' := by
  obtain ⟨⟨p, e1, e2⟩, e3⟩ := a
  obtain ⟨⟨p', f1, f2⟩, f3⟩ := a'
  constructor
  · rintro rfl
    have := getT_fun e1 f1
    simp only [Nd.mk.injEq, List.cons.injEq, and_true, true_and] at this
    obtain ⟨-, rfl⟩ := this
    exact nT_inj (getT_fun e3 f3)
  · rintro rfl
    obtain rfl := text_uniq hw e3 f3
    obtain rfl := text_uniq hw e2 f2
    exact getT_uniq hw e1 f1 (by simp)
end Go.Proofs.YtmaedahleenlgaaDoor

/- token.Mint, Look and Check on a table (layer 16). No condition but the table of bit places. Printed by gen_token4.py. -/
set_option linter.unusedVariables false
set_option linter.unusedSimpArgs false
namespace Go.Proofs.YtmaedahleenlgaaDoor
open Go Go.RowKit Go.WideMaps

def TlkPost (x : Tok) (err : Int) (w : World) (e : Ending) (w' : World) : Prop :=
  ∃ A c, e = .returned (.tuple #[TokV x A c, .int .i64 err]) ∧ OwnI w' w.heap.size .u8 (.slice A x.name.length c) x.name ∧ Below w.heap.size w w'
theorem TlkPost.no {x : Tok} {err : Int} {w w' : World} (h : x = tok0) (hb : Below w.heap.size w w') : TlkPost x err w (.returned (.tuple #[.agg #[.bool false, .int .i64 0, .int .i64 0, .slice none 0 0], .int .i64 err])) w' := by
  subst h
  exact ⟨none, 0, rfl, OwnI.nil _ _ _, hb⟩
theorem TlkPost.yes {x : Tok} {err : Int} {w w' : World} {l : Bool} {a t : Int} {nm : List Int} {A : Option Addr} {c : Nat} (h : x = ⟨l, a, t, nm⟩) (ho : OwnI w' w.heap.size .u8 (.slice A nm.length c) nm) (hb : Below w.heap.size w w') : TlkPost x err w (.returned (.tuple #[.agg #[.bool l, .int .i64 a, .int .i64 t, .slice A nm.length c], .int .i64 err])) w' := by
  subst h
  exact ⟨A, c, rfl, ho, hb⟩
theorem nodeT_text {T : List Nd} (hw : WfT T) (h : Int) : (nodeT T h).text.size ≤ 2048 := by
  unfold nodeT
  cases e : getT T h with
  | none => exact Nat.zero_le _
  | some n => exact (hw.get e).text

set_option maxHeartbeats 6400000 in
set_option maxRecDepth 100000 in
theorem tlook_any {B tb : Nat} {T : List Nd} (key h : Int) (w : World) (ht : IsTab B w tb T) (hh : Fit h) :
    Calls Tryd.prog 17 #[.pointer (some ⟨tb, 0, none⟩), .int .i64 key, .int .i64 h] w (TlkPost (lookX T key h) (lookE T key h) w) := by
  obtain ⟨X, hX⟩ : ∃ X, X = lookX T key h := ⟨_, rfl⟩
  obtain ⟨E, hE⟩ : ∃ E, E = lookE T key h := ⟨_, rfl⟩
  rw [← hX, ← hE]
  have HX := Lib.hid hX
  have HE := Lib.hid hE
  clear hX hE
  have HWf := Lib.hid ht.1
  obtain ⟨W0, hW0⟩ : ∃ W, W = w.alloc (.cells #[.bool false, .int .i64 0, .int .i64 0, .slice none 0 0] 32) := ⟨_, rfl⟩
  have HB0 : Hid (Below w.heap.size w W0) := by rw [hW0]; exact below_new _
  have HG0 : Hid (TbAt W0 w.heap.size false 0 0 (.slice none 0 0)) := by rw [hW0]; exact heap_alloc_new w _
  have HS0 : Hid (W0.heap.size = w.heap.size + 1) := by rw [hW0]; show _ = _; simp
  have hcv := run_const_bytes W0 #[.int .u8 116, .int .u8 111, .int .u8 107, .int .u8 101, .int .u8 110] 5 5
  rw [HS0.out] at hcv
  rw [hW0] at hcv
  have hconv := Lib.hid hcv
  clear hcv
  obtain ⟨V, hW⟩ : ∃ V, V = (w.alloc (.cells #[.bool false, .int .i64 0, .int .i64 0, .slice none 0 0] 32)).alloc (.cells #[.int .u8 116, .int .u8 111, .int .u8 107, .int .u8 101, .int .u8 110] 5 (5, 6)) := ⟨_, rfl⟩
  have hr : Rds B V .u8 (some ⟨w.heap.size + 1, 0, none⟩) 5 5 tokenL := by
    rw [hW, ← hW0]
    exact rds_marked (xs := tokenL) (t := 5) (5, 6) HS0.out (by decide) _ rfl 5 rfl (by decide)
  have hBV : Below W0.heap.size W0 V := by rw [hW, ← hW0]; exact below_new _
  have HBV := Lib.hid (below_next HB0.out HB0.out.size hBV)
  have HTV := Lib.hid ((ht.below HB0.out).below hBV)
  have HGV := Lib.hid (HG0.out.later hBV HG0.out.lt)
  have key1 := open_all key h (some ⟨w.heap.size + 1, 0, none⟩) 5 5 tokenL V HTV.out hr hh
  rw [token_str] at key1
  clear ht hh hr hBV HG0 hW0 HS0 HB0
  go_enter Tryd.func17, Tryd.ntmps17
  go_wp2_with ((with_reducible show wpList _ _ _ (Oper.mk _ (Op.convert 22 22 _) _ _ _ _ :: _) _ _); refine wp_convert rfl _ _ _ rfl rfl hconv.out ?_)
  rw [← hW]
  clear hW hconv
  refine key1.mono ?_
  clear key1
  rintro e w2 ⟨rfl, hb⟩
  obtain ⟨c, cok, hc⟩ : ∃ c ok, openV T key tokenS h = (c, ok) := ⟨_, _, rfl⟩
  have hcr := openV_range HWf.out key h tokenS
  rw [hc] at hcr ⊢
  simp only at hcr ⊢
  obtain ⟨tn, htn⟩ : ∃ n, n = nodeT T c := ⟨_, rfl⟩
  have HLK : Hid (lookK T key h = if tn.kind = 1 then readK (numsL tn.text) else none) := by show _ = _; unfold lookK nodeK; rw [hc, htn]
  have htx : tn.text.size ≤ 2048 := by rw [htn]; exact nodeT_text HWf.out c
  have HT2 := Lib.hid (HTV.out.below hb)
  have HG2 := Lib.hid (HGV.out.later hb HGV.out.lt)
  have HB2 := Lib.hid (below_next HBV.out HBV.out.size hb)
  have key1 := look_any c w2 HT2.out (by omega) (by omega)
  clear hc hb HTV HGV HBV hcr
  go_wp2_with fail
  refine key1.mono ?_
  clear key1
  rintro e v3 ⟨P3, d3, rfl, ho3, hb3⟩
  rw [← htn] at ho3 ⊢
  clear htn
  obtain ⟨w3, hw3⟩ : ∃ w3, w3 = v3.alloc (.cells #[.int .i64 tn.kind, .string tn.text, .slice P3 tn.parts.length d3] 40) := ⟨_, rfl⟩
  have hbn : Below v3.heap.size v3 w3 := by rw [hw3]; exact below_new _
  have hb5 := below_next hb3 hb3.size hbn
  have e0 : w3.cell? ⟨v3.heap.size, 0, none⟩ = some (.int .i64 tn.kind) := by rw [hw3]; simp [go_sem]
  have l3 : v3.heap.size < w3.heap.size := by rw [hw3]; simp
  have HG3 := Lib.hid (HG2.out.later hb5 HG2.out.lt)
  have HB3 := Lib.hid (below_next HB2.out HB2.out.size hb5)
  clear ho3 hb3 hbn hb5 HT2 HG2 HB2
  go_wp2_with ((with_reducible show wpList _ _ _ (Oper.mk _ (Op.convert 9 22 _) _ _ _ _ :: _) _ _); refine wp_str_bytes rfl _ rfl tn.text rfl (by omega) ?_)
  intro cb w5 hrb hb
  have hS3 : v3.heap.size + 1 = w3.heap.size := by rw [hw3]; simp
  rw [← hw3, hS3] at hb
  clear hS3 hw3
  replace e0 := later_cell hb e0 l3
  have HG5 := Lib.hid (HG3.out.later hb HG3.out.lt)
  have HB5 := Lib.hid (below_next HB3.out HB3.out.size hb)
  have l5 : v3.heap.size < w5.heap.size := by have := hb.size; omega
  have key1 := tread_any _ _ _ _ w5 (hrb B) (numsL_byt tn.text) (by omega)
  obtain ⟨R, hR⟩ : ∃ R, R = readK (numsL tn.text) := ⟨_, rfl⟩
  rw [← hR] at key1
  have HLK2 : Hid (lookK T key h = if tn.kind = 1 then R else none) := by show _ = _; rw [HLK.out, hR]
  clear hrb hb HG3 HB3 HLK htx hR l3
  go_wp2_with fail
  refine key1.mono ?_
  clear key1
  rintro e w6 ⟨A6, c6, rfl, ho, hb⟩
  obtain ⟨⟨xl, xa, xt, xn⟩, hx⟩ : ∃ x, R.getD tok0 = x := ⟨_, rfl⟩
  rw [hx] at ho ⊢
  simp only [TokV] at ho ⊢
  replace e0 := later_cell hb e0 l5
  have HG6 := Lib.hid (HG5.out.later hb HG5.out.lt)
  have HB6 := Lib.hid (below_next HB5.out HB5.out.size hb)
  have l6 : v3.heap.size < w6.heap.size := by have := hb.size; omega
  obtain ⟨w7, hw7⟩ : ∃ w7, w7 = w6.alloc (.cells #[.bool xl, .int .i64 xa, .int .i64 xt, .slice A6 xn.length c6] 32) := ⟨_, rfl⟩
  have hbn : Below w6.heap.size w6 w7 := by rw [hw7]; exact below_new _
  have HX7 : Hid (TbAt w7 w6.heap.size xl xa xt (.slice A6 xn.length c6)) := by rw [hw7]; exact heap_alloc_new w6 _
  have HG7 := Lib.hid (HG6.out.later hbn HG6.out.lt)
  have HB7 := Lib.hid (below_next HB6.out HB6.out.size hbn)
  have HO7 := Lib.hid (ho.below hbn)
  have k0 := later_cell hbn e0 l6
  have y0 := HX7.out.x0
  have y1 := HX7.out.x1
  have y2 := HX7.out.x2
  have y3 := HX7.out.x3
  have l7 : w.heap.size < w5.heap.size := HG5.out.lt
  clear hbn ho hb HG6 HB6 HG5 HB5 l5
  have HRX := Lib.hid hx
  clear hx
  cases R with
  | none =>
    have hno : lookK T key h = none := by rw [HLK2.out]; split <;> rfl
    have HN : Hid (X = tok0 ∧ E = 14) := by
      refine ⟨?_, ?_⟩
      · rw [HX.out]; unfold lookX; rw [hno]; rfl
      · rw [HE.out]; unfold lookE; rw [hno]; rfl
    clear hno
    go_wp2_with ((with_reducible show wpList _ _ _ (Oper.mk _ (Op.store 32 (.tmp 6) _) _ _ _ _ :: _) _ _); (rw [← hw7]); (refine wp_store_row rfl rfl _ _ _ rfl w.heap.size _ _ 32 rfl rfl tb_size HG7.out rfl (by simp [Value.oneCell']) ?_))
    obtain ⟨u, hu⟩ : ∃ u, u = World.setRow w7 w.heap.size #[.bool false, .int .i64 0, .int .i64 0, .slice none 0 0] := ⟨_, rfl⟩
    rw [← hu]
    have hux : TbAt u w.heap.size false 0 0 (.slice none 0 0) := by rw [hu]; exact setRow_heap _ w.heap.size _ _ _ _ HG7.out
    have HBu : Hid (Below w.heap.size w u) := by rw [hu]; exact below_setRow HB7.out (Nat.le_refl _) _
    have z0 := hux.x0
    have z1 := hux.x1
    have z2 := hux.x2
    have z3 := hux.x3
    clear hu hux
    refine bodyPost_ret (v := .tuple #[.agg #[.bool false, .int .i64 0, .int .i64 0, .slice none 0 0], .int .i64 14]) (by simp [results, Tryd.results17, go_sem, z0, z1, z2, z3]) rfl ?_
    rw [HN.out.2]; exact TlkPost.no HN.out.1 HBu.out
  | some r =>
    by_cases hk1 : tn.kind = 1
    rotate_left
    · have hno : lookK T key h = none := by rw [HLK2.out, if_neg hk1]
      have HN : Hid (X = tok0 ∧ E = 14) := by
        refine ⟨?_, ?_⟩
        · rw [HX.out]; unfold lookX; rw [hno]; rfl
        · rw [HE.out]; unfold lookE; rw [hno]; rfl
      have hkb : (tn.kind != 1) = true := by simp [hk1]
      clear hk1 hno
      go_wp2_with ((with_reducible show wpList _ _ _ (Oper.mk _ (Op.store 32 (.tmp 6) _) _ _ _ _ :: _) _ _); (try rw [← hw7]); (refine wp_store_row rfl rfl _ _ _ rfl w.heap.size _ _ 32 rfl rfl tb_size HG7.out rfl (by simp [Value.oneCell']) ?_))
      obtain ⟨u, hu⟩ : ∃ u, u = World.setRow w7 w.heap.size #[.bool false, .int .i64 0, .int .i64 0, .slice none 0 0] := ⟨_, rfl⟩
      rw [← hu]
      have hux : TbAt u w.heap.size false 0 0 (.slice none 0 0) := by rw [hu]; exact setRow_heap _ w.heap.size _ _ _ _ HG7.out
      have HBu : Hid (Below w.heap.size w u) := by rw [hu]; exact below_setRow HB7.out (Nat.le_refl _) _
      have z0 := hux.x0
      have z1 := hux.x1
      have z2 := hux.x2
      have z3 := hux.x3
      clear hu hux
      refine bodyPost_ret (v := .tuple #[.agg #[.bool false, .int .i64 0, .int .i64 0, .slice none 0 0], .int .i64 14]) (by simp [results, Tryd.results17, go_sem, z0, z1, z2, z3]) rfl ?_
      rw [HN.out.2]; exact TlkPost.no HN.out.1 HBu.out
    have hkb : (tn.kind != 1) = false := by simp [hk1]
    have hyes : lookK T key h = some r := by rw [HLK2.out, if_pos hk1]
    have HN : Hid (X = ⟨xl, xa, xt, xn⟩ ∧ E = 0) := by
      refine ⟨?_, ?_⟩
      · rw [HX.out]; unfold lookX; rw [hyes]; exact HRX.out
      · rw [HE.out]; unfold lookE; rw [hyes]; rfl
    clear hk1 hyes
    go_wp2_with ((with_reducible show wpList _ _ _ (Oper.mk _ (Op.store 32 (.tmp 6) _) _ _ _ _ :: _) _ _); (try rw [← hw7]); (refine wp_store_row rfl rfl _ _ _ rfl w.heap.size _ _ 32 rfl rfl tb_size HG7.out rfl (by simp [Value.oneCell']) ?_))
    obtain ⟨u, hu⟩ : ∃ u, u = World.setRow w7 w.heap.size #[.bool xl, .int .i64 xa, .int .i64 xt, .slice A6 xn.length c6] := ⟨_, rfl⟩
    rw [← hu]
    have hux : TbAt u w.heap.size xl xa xt (.slice A6 xn.length c6) := by rw [hu]; exact setRow_heap _ w.heap.size _ _ _ _ HG7.out
    have HBu : Hid (Below w.heap.size w u) := by rw [hu]; exact below_setRow HB7.out (Nat.le_refl _) _
    have HOu : Hid (OwnI u w.heap.size .u8 (.slice A6 xn.length c6) xn) := by rw [hu]; exact (HO7.out.setRow l7 _).mono (Nat.le_of_lt l7)
    have z0 := hux.x0
    have z1 := hux.x1
    have z2 := hux.x2
    have z3 := hux.x3
    clear hu hux
    refine bodyPost_ret (v := .tuple #[.agg #[.bool xl, .int .i64 xa, .int .i64 xt, .slice A6 xn.length c6], .int .i64 0]) (by simp [results, Tryd.results17, go_sem, z0, z1, z2, z3]) rfl ?_
    rw [HN.out.2]; exact TlkPost.yes HN.out.1 HOu.out HBu.out
end Go.Proofs.YtmaedahleenlgaaDoor

/- token.Check and Mint on a table (layer 16). No condition but the table of bit places. Printed by gen_token5.py. -/
set_option linter.unusedVariables false
set_option linter.unusedSimpArgs false
namespace Go.Proofs.YtmaedahleenlgaaDoor
open Go Go.RowKit Go.WideMaps

theorem lookK_form {T : List Nd} {key h : Int} {x : Tok} (e : lookK T key h = some x) : (0 ≤ x.time ∧ x.time ≤ 4611686018427387903) ∧ lookX T key h = x ∧ lookE T key h = 0 := by
  refine ⟨?_, ?_, ?_⟩
  · unfold lookK nodeK at e
    split at e
    · exact (readK_range e).2.1
    · cases e
  · unfold lookX; rw [e]; rfl
  · unfold lookE; rw [e]; rfl
set_option maxHeartbeats 6400000 in
set_option maxRecDepth 100000 in
theorem tcheck_any {B tb : Nat} {T : List Nd} (key h addr now life : Int) (w : World) (ht : IsTab B w tb T) (hh : Fit h) (hn : Fit now) :
    Calls Tryd.prog 18 #[.pointer (some ⟨tb, 0, none⟩), .int .i64 key, .int .i64 h, .int .i64 addr, .int .i64 now, .int .i64 life] w (TlkPost (checkX (lookK T key h) addr now life) (checkE (lookK T key h) addr now life) w) := by
  have HN0 := Lib.hid hn
  obtain ⟨W0, hW0⟩ : ∃ W, W = w.alloc (.cells #[.bool false, .int .i64 0, .int .i64 0, .slice none 0 0] 32) := ⟨_, rfl⟩
  have HB0 : Hid (Below w.heap.size w W0) := by rw [hW0]; exact below_new _
  have HG0 : Hid (TbAt W0 w.heap.size false 0 0 (.slice none 0 0)) := by rw [hW0]; exact heap_alloc_new w _
  have key1 := tlook_any key h W0 (ht.below HB0.out) hh
  cases hlk : lookK T key h with
  | none =>
    have e1 : lookX T key h = tok0 := by unfold lookX; rw [hlk]; rfl
    have e2 : lookE T key h = 14 := by unfold lookE; rw [hlk]; rfl
    rw [e1, e2] at key1
    clear e1 e2 hlk ht hh hn
    go_enter Tryd.func18, Tryd.ntmps18
    go_wp2_with fail
    rw [← hW0]
    clear hW0
    refine key1.mono ?_
    clear key1
    rintro e w6 ⟨A6, c6, rfl, ho, hb⟩
    simp only [TokV, tok0, List.length_nil] at ho ⊢
    obtain ⟨w7, hw7⟩ : ∃ w7, w7 = w6.alloc (.cells #[.bool false, .int .i64 0, .int .i64 0, .slice A6 0 c6] 32) := ⟨_, rfl⟩
    have hbn : Below w6.heap.size w6 w7 := by rw [hw7]; exact below_new _
    have hb5 := below_next hb hb.size hbn
    have HG7 := Lib.hid (HG0.out.later hb5 HG0.out.lt)
    have HB7 := Lib.hid (below_next HB0.out HB0.out.size hb5)
    clear hbn hb ho hb5
    subst hw7
    go_wp2_with ((with_reducible show wpList _ _ _ (Oper.mk _ (Op.store 32 (.tmp 12) _) _ _ _ _ :: _) _ _); (refine wp_store_row rfl rfl _ _ _ rfl w.heap.size _ _ 32 rfl rfl tb_size HG7.out rfl (by simp [Value.oneCell']) ?_))
    obtain ⟨u, hu⟩ : ∃ u, u = World.setRow (w6.alloc (.cells #[.bool false, .int .i64 0, .int .i64 0, .slice A6 0 c6] 32)) w.heap.size #[.bool false, .int .i64 0, .int .i64 0, .slice none 0 0] := ⟨_, rfl⟩
    rw [← hu]
    have hux : TbAt u w.heap.size false 0 0 (.slice none 0 0) := by rw [hu]; exact setRow_heap _ w.heap.size _ _ _ _ HG7.out
    have HBu : Hid (Below w.heap.size w u) := by rw [hu]; exact below_setRow HB7.out (Nat.le_refl _) _
    have z0 := hux.x0
    have z1 := hux.x1
    have z2 := hux.x2
    have z3 := hux.x3
    clear hu hux
    refine bodyPost_ret (v := .tuple #[.agg #[.bool false, .int .i64 0, .int .i64 0, .slice none 0 0], .int .i64 14]) (by simp [results, Tryd.results18, go_sem, z0, z1, z2, z3]) rfl ?_
    exact TlkPost.no rfl HBu.out
  | some x =>
    obtain ⟨⟨t0, t1⟩, e1, e2⟩ := lookK_form hlk
    obtain ⟨X, hX⟩ : ∃ X, X = checkX (some x) addr now life := ⟨_, rfl⟩
    obtain ⟨E, hE⟩ : ∃ E, E = checkE (some x) addr now life := ⟨_, rfl⟩
    rw [← hX, ← hE]
    have HX : Hid (X = if E = 0 then x else tok0) := by show _ = _; rw [hX, hE]; rfl
    have HE : Hid (E = rightK x addr now life) := hE
    rw [e1, e2] at key1
    clear e1 e2 hlk ht hh hn hX hE
    obtain ⟨xl, xa, xt, xn⟩ := x
    simp only at t0 t1
    go_enter Tryd.func18, Tryd.ntmps18
    go_wp2_with fail
    rw [← hW0]
    clear hW0
    refine key1.mono ?_
    clear key1
    rintro e w6 ⟨A6, c6, rfl, ho, hb⟩
    simp only [TokV] at ho ⊢
    obtain ⟨w7, hw7⟩ : ∃ w7, w7 = w6.alloc (.cells #[.bool xl, .int .i64 xa, .int .i64 xt, .slice A6 xn.length c6] 32) := ⟨_, rfl⟩
    have hbn : Below w6.heap.size w6 w7 := by rw [hw7]; exact below_new _
    have hb5 := below_next hb hb.size hbn
    have HG7 := Lib.hid (HG0.out.later hb5 HG0.out.lt)
    have HB7 := Lib.hid (below_next HB0.out HB0.out.size hb5)
    have HO7 := Lib.hid (ho.below hbn)
    have l7 : w.heap.size < W0.heap.size := HG0.out.lt
    clear hbn hb ho hb5 HG0 HB0
    subst hw7
    by_cases ha : xa = addr
    rotate_left
    · have HN : Hid (X = tok0 ∧ E = 14) := by
        have h1 : E = 14 := by rw [HE.out]; exact if_pos ha
        exact ⟨by rw [HX.out, h1]; rfl, h1⟩
      have hab : (xa != addr) = true := by simp [ha]
      clear ha
      go_wp2_with ((with_reducible show wpList _ _ _ (Oper.mk _ (Op.store 32 (.tmp 12) _) _ _ _ _ :: _) _ _); (refine wp_store_row rfl rfl _ _ _ rfl w.heap.size _ _ 32 rfl rfl tb_size HG7.out rfl (by simp [Value.oneCell']) ?_))
      obtain ⟨u, hu⟩ : ∃ u, u = World.setRow (w6.alloc (.cells #[.bool xl, .int .i64 xa, .int .i64 xt, .slice A6 xn.length c6] 32)) w.heap.size #[.bool false, .int .i64 0, .int .i64 0, .slice none 0 0] := ⟨_, rfl⟩
      rw [← hu]
      have hux : TbAt u w.heap.size false 0 0 (.slice none 0 0) := by rw [hu]; exact setRow_heap _ w.heap.size _ _ _ _ HG7.out
      have HBu : Hid (Below w.heap.size w u) := by rw [hu]; exact below_setRow HB7.out (Nat.le_refl _) _
      have z0 := hux.x0
      have z1 := hux.x1
      have z2 := hux.x2
      have z3 := hux.x3
      clear hu hux
      refine bodyPost_ret (v := .tuple #[.agg #[.bool false, .int .i64 0, .int .i64 0, .slice none 0 0], .int .i64 14]) (by simp [results, Tryd.results18, go_sem, z0, z1, z2, z3]) rfl ?_
      rw [HN.out.2]; exact TlkPost.no HN.out.1 HBu.out
    have HA := Lib.hid ha
    have hab : (xa != addr) = false := by simp [ha]
    clear ha
    have hn1 := HN0.out.2
    by_cases h1 : now < xt
    · have HN : Hid (X = tok0 ∧ E = 9) := by
        have h2 : E = 9 := by rw [HE.out]; unfold rightK; rw [if_neg (by show ¬ xa ≠ addr; simp [HA.out]), if_pos (.inl h1)]
        exact ⟨by rw [HX.out, h2]; rfl, h2⟩
      go_wp2_with ((with_reducible show wpList _ _ _ (Oper.mk _ (Op.store 32 (.tmp 12) _) _ _ _ _ :: _) _ _); (refine wp_store_row rfl rfl _ _ _ rfl w.heap.size _ _ 32 rfl rfl tb_size HG7.out rfl (by simp [Value.oneCell']) ?_))
      obtain ⟨u, hu⟩ : ∃ u, u = World.setRow (w6.alloc (.cells #[.bool xl, .int .i64 xa, .int .i64 xt, .slice A6 xn.length c6] 32)) w.heap.size #[.bool false, .int .i64 0, .int .i64 0, .slice none 0 0] := ⟨_, rfl⟩
      rw [← hu]
      have hux : TbAt u w.heap.size false 0 0 (.slice none 0 0) := by rw [hu]; exact setRow_heap _ w.heap.size _ _ _ _ HG7.out
      have HBu : Hid (Below w.heap.size w u) := by rw [hu]; exact below_setRow HB7.out (Nat.le_refl _) _
      have z0 := hux.x0
      have z1 := hux.x1
      have z2 := hux.x2
      have z3 := hux.x3
      clear hu hux
      refine bodyPost_ret (v := .tuple #[.agg #[.bool false, .int .i64 0, .int .i64 0, .slice none 0 0], .int .i64 9]) (by simp [results, Tryd.results18, go_sem, z0, z1, z2, z3]) rfl ?_
      rw [HN.out.2]; exact TlkPost.no HN.out.1 HBu.out
    have hsub : IntKind.i64.wrap (now - xt) = now - xt := by rw [IntKind.wrap_i64]; omega
    by_cases h2 : life < now - xt
    · have HN : Hid (X = tok0 ∧ E = 9) := by
        have h2 : E = 9 := by rw [HE.out]; unfold rightK; rw [if_neg (by show ¬ xa ≠ addr; simp [HA.out]), if_pos (.inr h2)]
        exact ⟨by rw [HX.out, h2]; rfl, h2⟩
      go_wp2_with ((with_reducible show wpList _ _ _ (Oper.mk _ (Op.store 32 (.tmp 12) _) _ _ _ _ :: _) _ _); (refine wp_store_row rfl rfl _ _ _ rfl w.heap.size _ _ 32 rfl rfl tb_size HG7.out rfl (by simp [Value.oneCell']) ?_))
      obtain ⟨u, hu⟩ : ∃ u, u = World.setRow (w6.alloc (.cells #[.bool xl, .int .i64 xa, .int .i64 xt, .slice A6 xn.length c6] 32)) w.heap.size #[.bool false, .int .i64 0, .int .i64 0, .slice none 0 0] := ⟨_, rfl⟩
      rw [← hu]
      have hux : TbAt u w.heap.size false 0 0 (.slice none 0 0) := by rw [hu]; exact setRow_heap _ w.heap.size _ _ _ _ HG7.out
      have HBu : Hid (Below w.heap.size w u) := by rw [hu]; exact below_setRow HB7.out (Nat.le_refl _) _
      have z0 := hux.x0
      have z1 := hux.x1
      have z2 := hux.x2
      have z3 := hux.x3
      clear hu hux
      refine bodyPost_ret (v := .tuple #[.agg #[.bool false, .int .i64 0, .int .i64 0, .slice none 0 0], .int .i64 9]) (by simp [results, Tryd.results18, go_sem, z0, z1, z2, z3]) rfl ?_
      rw [HN.out.2]; exact TlkPost.no HN.out.1 HBu.out
    have HN : Hid (X = ⟨xl, xa, xt, xn⟩ ∧ E = 0) := by
      have h3 : E = 0 := by rw [HE.out]; unfold rightK; rw [if_neg (by show ¬ xa ≠ addr; simp [HA.out]), if_neg (by show ¬ (now < xt ∨ life < now - xt); omega)]
      exact ⟨by rw [HX.out, h3]; rfl, h3⟩
    go_wp2_with ((with_reducible show wpList _ _ _ (Oper.mk _ (Op.store 32 (.tmp 12) _) _ _ _ _ :: _) _ _); (refine wp_store_row rfl rfl _ _ _ rfl w.heap.size _ _ 32 rfl rfl tb_size HG7.out rfl (by simp [Value.oneCell']) ?_))
    obtain ⟨u, hu⟩ : ∃ u, u = World.setRow (w6.alloc (.cells #[.bool xl, .int .i64 xa, .int .i64 xt, .slice A6 xn.length c6] 32)) w.heap.size #[.bool xl, .int .i64 xa, .int .i64 xt, .slice A6 xn.length c6] := ⟨_, rfl⟩
    rw [← hu]
    have hux : TbAt u w.heap.size xl xa xt (.slice A6 xn.length c6) := by rw [hu]; exact setRow_heap _ w.heap.size _ _ _ _ HG7.out
    have HBu : Hid (Below w.heap.size w u) := by rw [hu]; exact below_setRow HB7.out (Nat.le_refl _) _
    have HOu : Hid (OwnI u w.heap.size .u8 (.slice A6 xn.length c6) xn) := by rw [hu]; exact (HO7.out.setRow l7 _).mono (Nat.le_of_lt l7)
    have z0 := hux.x0
    have z1 := hux.x1
    have z2 := hux.x2
    have z3 := hux.x3
    clear hu hux
    refine bodyPost_ret (v := .tuple #[.agg #[.bool xl, .int .i64 xa, .int .i64 xt, .slice A6 xn.length c6], .int .i64 0]) (by simp [results, Tryd.results18, go_sem, z0, z1, z2, z3]) rfl ?_
    rw [HN.out.2]; exact TlkPost.yes HN.out.1 HOu.out HBu.out

set_option maxHeartbeats 3200000 in
set_option maxRecDepth 100000 in
theorem mint_any {B B' tb : Nat} {T : List Nd} (key : Int) (l : Bool) (a t : Int) (nm : List Int) (A : Option Addr) (n c : Nat) (w : World) (ht : IsTab B w tb T) (hk : Fit key) (h : Rds B' w .u8 A n c nm) (hn : n ≤ 1000) (hz : Tz w) :
    Calls Tryd.prog 11 #[.pointer (some ⟨tb, 0, none⟩), .int .i64 key, .agg #[.bool l, .int .i64 a, .int .i64 t, .slice A n c]] w (TabPost B tb w (mintT T key ⟨l, a, t, nm⟩)) := by
  obtain ⟨W, hW⟩ : ∃ W, W = w.alloc (.cells #[.bool l, .int .i64 a, .int .i64 t, .slice A n c] 32) := ⟨_, rfl⟩
  have HBW : Hid (Below w.heap.size w W) := by rw [hW]; exact below_new _
  have HT := Lib.hid (ht.below HBW.out)
  have HT0 := Lib.hid ht
  have HFk := Lib.hid hk
  obtain ⟨zs, hzs⟩ : ∃ zs, zs = tokB ⟨l, a, t, nm⟩ := ⟨_, rfl⟩
  have key1 := ttext_any l a t nm A n c W (h.below HBW.out) hn (hz.later HBW.out)
  rw [← hzs] at key1
  have HZS := Lib.hid hzs
  clear ht hk h hz
  go_enter Tryd.func11, Tryd.ntmps11
  go_wp2_with fail
  rw [← hW]
  clear hW
  refine key1.mono ?_
  clear key1
  rintro e w1 ⟨v1, rfl, ho, hb⟩
  obtain ⟨A1, c1, rfl⟩ := ho.slice
  have HB1 := Lib.hid (below_next HBW.out HBW.out.size hb)
  have HT1 := Lib.hid (HT.out.below hb)
  have HO1 := Lib.hid (ho.rds (B' := 0))
  clear ho hb HT HBW
  by_cases hbad : badTok ⟨l, a, t, nm⟩
  · have HN : Hid (mintT T key ⟨l, a, t, nm⟩ = (T, 0)) := mintT_no hbad
    have hlz : zs.length = 0 := by rw [hzs, tokB_no hbad]; rfl
    have hlb : ((zs.length : Int) == 0) = true := by rw [hlz]; rfl
    clear hbad hzs hlz
    go_wp2_with fail
    go_ret
    rw [HN.out]
    exact tabPost_same HT0.out HB1.out
  · have hlen := tokB_len hbad
    rw [← hzs] at hlen
    have hlb : ((zs.length : Int) == 0) = false := by rw [beq_eq_false_iff_ne]; omega
    have HN : Hid (mintT T key ⟨l, a, t, nm⟩ = tokT T key (strOfNums zs)) := by show _ = _; rw [mintT_yes hbad, hzs]
    have hconv := Lib.hid (run_const_bytes w1 #[.int .u8 116, .int .u8 111, .int .u8 107, .int .u8 101, .int .u8 110] 5 5)
    obtain ⟨V, hV⟩ : ∃ V, V = w1.alloc (.cells #[.int .u8 116, .int .u8 111, .int .u8 107, .int .u8 101, .int .u8 110] 5 (5, 6)) := ⟨_, rfl⟩
    have hr : Rds B V .u8 (some ⟨w1.heap.size, 0, none⟩) 5 5 tokenL := by
      rw [hV]
      exact rds_marked (xs := tokenL) (t := 5) (5, 6) rfl (by decide) _ rfl 5 rfl (by decide)
    have hBV : Below w1.heap.size w1 V := by rw [hV]; exact below_new _
    have HBV := Lib.hid (below_next HB1.out HB1.out.size hBV)
    have HTl := Lib.hid HT1.out.1.len
    have key1 := text_any A1 zs.length c1 zs V (HT1.out.below hBV) (HO1.out.below hBV)
    have HK := Lib.hid hr
    clear hbad hzs hlen hr hBV HB1 HT1 HO1
    go_wp2_with ((with_reducible show wpList _ _ _ (Oper.mk _ (Op.convert 22 22 _) _ _ _ _ :: _) _ _); refine wp_convert rfl _ _ _ rfl rfl hconv.out ?_)
    rw [← hV]
    clear hV hconv
    refine key1.mono ?_
    clear key1
    rintro e w4 p
    obtain ⟨⟨T4, h4⟩, e4⟩ : ∃ r, textT T (strOfNums zs) = r := ⟨_, rfl⟩
    have r4 := textT_range (T := T) (b := strOfNums zs) HTl.out
    rw [e4] at r4
    obtain ⟨rfl, ht, hf⟩ := p.intro e4
    have HE : Hid (mintT T key ⟨l, a, t, nm⟩ = sealT T4 key tokenS h4) := by show _ = _; rw [HN.out]; unfold tokT; rw [e4]
    have HF4 : Hid (Frm tabO B w w4) := (Frm.of_below HBV.out).trans hf
    have key1 := seal_any key (some ⟨w1.heap.size, 0, none⟩) 5 5 tokenL h4 w4 ht HFk.out (fit_of r4) (HK.out.frm hf.tab_sp)
    rw [token_str] at key1
    clear p e4 r4 ht hf HBV HK
    go_wp2_with fail
    refine key1.mono ?_
    clear key1
    rintro e w7 p
    have P7 := Lib.hid (tabPost_next HF4.out p)
    obtain ⟨rfl, -, -⟩ := p
    go_wp2_with fail
    go_ret
    rw [HE.out]
    exact P7.out
end Go.Proofs.YtmaedahleenlgaaDoor

/- The table of bit places: what the row's condition gives a walk; a world that meets it. No condition. -/
set_option linter.unusedVariables false
set_option linter.unusedSimpArgs false
namespace Go.Proofs.YtmaedahleenlgaaDoor
open Go Go.RowKit Go.ChangeShapes Go.WideShapes Go.ChangeAt

def laidL : List (String × DataW Unit) := [("math/bits.deBruijn32tab", Rows.laid_math_bits_deBruijn32tab), ("math/bits.deBruijn64tab", Rows.laid_math_bits_deBruijn64tab)]
theorem g_b64 : Tryd.prog.globalNamed "math/bits.deBruijn64tab" = some 1 := by kernel_rfl
theorem g_b64t : (Tryd.prog.globals[1]?).map (·.type) = some 134 := by kernel_rfl
theorem cells_u8_l : Tryd.prog.cellsOf 5 = 1 := by kernel_rfl
theorem int_of_trod {H : Type} {enc : TypeId × Value → H} {P : Program} {w : World} {base : Nat} {sp : Nat → Bool} {held : Bool} {fuel : Nat} {t : TypeId} {k : IntKind} {c : Value} {y : DataW H × List MemPlace}
    (ht : P.underlying t = some (.int k)) (h : DataW.trod enc P w base sp held fuel t [c] = some y) : ∃ n, c = .int k n ∧ y = (.lit (.int k n), []) := by
  cases fuel with
  | zero => simp [DataW.trod] at h
  | succ fuel =>
    cases c <;> simp [DataW.trod, ht] at h
    rename_i k' n
    obtain ⟨⟨rfl, _⟩, rfl⟩ := h
    exact ⟨n, rfl, rfl⟩
theorem laid_cell {W : World} (h : laidMetH Tryd.prog laidL W) (i : Nat) (hi : i < 64) (v : Int) (hv : ∀ xs : List (DataW Unit), (Rows.laid_math_bits_deBruijn64tab : DataW Unit) = .agg xs → xs[i]? = some (.lit (.int .u8 v))) : W.cell? ⟨1, i, none⟩ = some (.int .u8 v) := by
  have h' : laidMet Tryd.prog laidL W := h
  obtain ⟨ps, ⟨g0, t0, cs0, fuel0, p0, q0, _, _, _, _, ⟨g, t, cs, fuel, p, q, hg, ht, hvar, hd, _⟩, _⟩, _⟩ := h'
  obtain rfl := Option.some.inj (g_b64.symm.trans hg)
  obtain rfl := Option.some.inj (g_b64t.symm.trans ht)
  rw [World.var?_cell g_b64 hvar i]
  obtain ⟨xs, m, rfl, hx, hlen, hxl, hcell⟩ := DataW.trod_array Tryd.underlying134 hd
  simp only [Prod.mk.injEq] at hx
  have hxi := hv _ hx.1
  rw [List.getElem?_map] at hxi
  obtain ⟨y, hy, hy1⟩ := Option.map_eq_some_iff.1 hxi
  have hc := hcell i hi
  rw [cells_u8_l, hy, Nat.mul_one] at hc
  have hil : i < cs.toList.length := by
    rw [List.getElem?_eq_some_iff] at hy
    have : (cs.toList.drop i).take 1 ≠ [] := by
      intro e
      rw [e] at hc
      cases m with
      | zero => simp [DataW.trod] at hc
      | succ m => simp [DataW.trod, Tryd.underlying5] at hc
    rcases Nat.lt_or_ge i cs.toList.length with k | k
    · exact k
    · exact absurd (by rw [List.drop_eq_nil_of_le k]; rfl) this
  have e1 : (cs.toList.drop i).take 1 = [cs.toList[i]] := by rw [List.drop_eq_getElem_cons hil]; rfl
  rw [e1] at hc
  obtain ⟨n, hn, hyy⟩ := int_of_trod Tryd.underlying5 hc
  rw [hyy] at hy1
  simp only [DataW.lit.injEq, Lit.int.injEq, true_and] at hy1
  subst hy1
  rw [← Array.getElem?_toList, List.getElem?_eq_getElem hil, hn]
theorem tz_of_laid {W : World} (h : laidMetH Tryd.prog laidL W) : Tz W :=
  ⟨laid_cell h 0 (by decide) 0 (fun xs e => by unfold Rows.laid_math_bits_deBruijn64tab at e; cases e; rfl), laid_cell h 1 (by decide) 1 (fun xs e => by unfold Rows.laid_math_bits_deBruijn64tab at e; cases e; rfl),
   laid_cell h 3 (by decide) 2 (fun xs e => by unfold Rows.laid_math_bits_deBruijn64tab at e; cases e; rfl), laid_cell h 7 (by decide) 3 (fun xs e => by unfold Rows.laid_math_bits_deBruijn64tab at e; cases e; rfl)⟩
/-- The data of a table, as cells. -/
def tabCells : DataW Unit → Array Value
  | .agg xs => (xs.map fun | .lit (.int k n) => Value.int k n | _ => undef).toArray
  | _ => #[]
/-- A world that meets the condition. -/
noncomputable def laidWorld (os : Os) : World :=
  let w0 := World.holding Tryd.prog os ⟨#[], #[], []⟩
  { w0 with heap := (w0.heap.modify 0 fun
      | .cells _ t frozen => .cells (tabCells Rows.laid_math_bits_deBruijn32tab) t frozen
      | o => o).modify 1 fun
      | .cells _ t frozen => .cells (tabCells Rows.laid_math_bits_deBruijn64tab) t frozen
      | o => o }
theorem laidWorld_met (os : Os) (args : Array Value) : laidMetH Tryd.prog laidL ((laidWorld os).forCall (fun _ _ => 0) ⟨#[], args, []⟩).memory :=
  laidMetH_of_parts (laidMet_of_run' 8 (by kernel_rfl) (by kernel_rfl)) (by kernel_rfl)
end Go.Proofs.YtmaedahleenlgaaDoor

/- The laws of layer 17: awake; TicketTimes. No condition but the table of bit places. -/
set_option linter.unusedVariables false
set_option linter.unusedSimpArgs false
namespace Go.Proofs.YtmaedahleenlgaaDoor
open Go Go.RowKit Go.WideMaps

def secN : Nd := ⟨2, ByteArray.empty, []⟩
theorem sec1 : secretT [] = ([secN], 1) := by decide
theorem sec2 : secretT [secN] = ([secN, secN], 2) := by decide
theorem sec_in1 : In [secN] 1 := ⟨secN, rfl⟩
theorem sec_in21 : In [secN, secN] 1 := ⟨secN, rfl⟩
theorem sec_in22 : In [secN, secN] 2 := ⟨secN, rfl⟩
theorem fit_in {T : List Nd} {x : Int} (hw : WfT T) (h : In T x) : Fit x := by
  have := h.range
  have := hw.len
  exact ⟨by omega, by omega⟩

set_option maxHeartbeats 1600000 in
set_option maxRecDepth 100000 in
theorem awake17_any (w : World) (hz : Tz w) : Calls Tryd.prog 25 #[] w (AwakePost w) := by
  have HZ := Lib.hid hz
  clear hz
  go_enter Tryd.func25, Tryd.ntmps25
  go_wp2_with fail
  refine (new_any w).mono ?_
  rintro e w1 ⟨tb, rfl, ht1, hb1⟩
  have HB1 := Lib.hid hb1
  have key := secret_any w1 ht1
  clear hb1 ht1
  go_wp2_with fail
  refine key.mono ?_
  clear key
  rintro e w2 p
  obtain ⟨rfl, ht, hf⟩ := p.intro sec1
  have HB2 := Lib.hid (HB1.out.trans (hf.below HB1.out.size))
  have key := secret_any w2 ht
  clear p ht hf HB1
  go_wp2_with fail
  refine key.mono ?_
  clear key
  rintro e w3 p
  obtain ⟨rfl, ht, hf⟩ := p.intro sec2
  have HB3 := Lib.hid (HB2.out.trans (hf.below HB2.out.size))
  have hw3 := ht.1
  have key := issue_any 1 1 10 5 2 w3 ht ⟨by decide, by decide⟩ ⟨by decide, by decide⟩ (HZ.out.later HB3.out)
  clear p ht hf HB2
  go_wp2_with fail
  refine key.mono ?_
  clear key
  rintro e w4 p
  obtain ⟨row, tx, hT, -⟩ := issue_at (key := 1) (v := 1) (t := 10) (l := 5) (s := 2) hw3 (by decide) sec_in21 sec_in22 (by decide)
  obtain ⟨⟨T4, h⟩, e4⟩ : ∃ r, issueT [secN, secN] 1 1 10 5 2 = r := ⟨_, rfl⟩
  rw [e4] at hT
  obtain ⟨rfl, ht, hf⟩ := p.intro e4
  simp only at hT
  have HB4 := Lib.hid (HB3.out.trans (hf.below HB3.out.size))
  have HT4 := Lib.hid ht
  have TA := Lib.hid hT
  have hh := TA.out.pos
  have hhb : (h != 0) = true := by simp [hh]
  have HFh := Lib.hid (fit_in ht.1 hT.sl.in_)
  have key := redeem_any 1 h 15 w4 ht HFh.out ⟨by decide, by decide⟩
  rw [show redeemV T4 1 h 15 = ((1, 10, 5, 2), 0) from (hT.redeemN (by decide)).trans (by decide)] at key
  clear p e4 ht hf hw3 HB3 hT hh
  go_wp2_with fail
  refine key.mono ?_
  clear key
  rintro e w5 ⟨rfl, hb⟩
  obtain ⟨V5, hV⟩ : ∃ V, V = w5.alloc (.cells #[.int .i64 1, .int .i64 10, .int .i64 5, .int .i64 2] 61) := ⟨_, rfl⟩
  have hbV : Below w5.heap.size w5 V5 := by rw [hV]; exact below_new _
  have HX : Hid (TkAt V5 w5.heap.size 1 10 5 2) := by rw [hV]; exact heap_alloc_new w5 _
  have HB5 := Lib.hid (below_next HB4.out HB4.out.size (below_next hb hb.size hbV))
  have HT5 := Lib.hid (HT4.out.below (below_next hb hb.size hbV))
  have key := redeem_any 1 h 16 V5 HT5.out HFh.out ⟨by decide, by decide⟩
  rw [show redeemV T4 1 h 16 = ((0, 0, 0, 0), 9) from (TA.out.redeemN (by decide)).trans (by decide)] at key
  clear hb hbV HB4 HT4
  go_wp2_with fail
  rw [← hV]
  clear hV
  refine key.mono ?_
  clear key
  rintro e w6 ⟨rfl, hb⟩
  have HX6 := Lib.hid (HX.out.later hb HX.out.lt)
  have HB6 := Lib.hid (below_next HB5.out HB5.out.size hb)
  have x3 := HX6.out.x3
  have l6 := HX6.out.lt
  clear hb HX
  go_wp2_with fail
  go_ret
  exact ⟨rfl, HB6.out.alloc HB6.out.size _⟩

end Go.Proofs.YtmaedahleenlgaaDoor

/- The reference and the small functions of layer 16's laws. No condition but the table of bit places. -/
set_option linter.unusedVariables false
set_option linter.unusedSimpArgs false
namespace Go.Proofs.YtmaedahleenlgaaDoor
open Go Go.RowKit Go.WideMaps

set_option maxHeartbeats 3200000 in
set_option maxRecDepth 100000 in
theorem r16text_any {B : Nat} (l : Bool) (a t : Int) (nm : List Int) (A : Option Addr) (n c : Nat) (w : World) (h : Rds B w .u8 A n c nm) (hn : n ≤ 1000) :
    Calls Tryd.prog 13 #[.agg #[.bool l, .int .i64 a, .int .i64 t, .slice A n c]] w (BytesPost (tokB ⟨l, a, t, nm⟩) w) := by
  obtain ⟨W, hW⟩ : ∃ W, W = w.alloc (.cells #[.bool l, .int .i64 a, .int .i64 t, .slice A n c] 24) := ⟨_, rfl⟩
  have HBW : Hid (Below w.heap.size w W) := by rw [hW]; exact below_new _
  have HSW : Hid (W.heap.size = w.heap.size + 1) := by rw [hW]; show _ = _; simp
  have x0 : W.cell? ⟨w.heap.size, 0, none⟩ = some (.bool l) := by rw [hW]; simp [go_sem]
  have x1 : W.cell? ⟨w.heap.size, 1, none⟩ = some (.int .i64 a) := by rw [hW]; simp [go_sem]
  have x2 : W.cell? ⟨w.heap.size, 2, none⟩ = some (.int .i64 t) := by rw [hW]; simp [go_sem]
  have x3 : W.cell? ⟨w.heap.size, 3, none⟩ = some (.slice A n c) := by rw [hW]; simp [go_sem]
  have hlt : w.heap.size < W.heap.size := by have := HSW.out; omega
  have HR := Lib.hid (h.below HBW.out)
  have HL := Lib.hid h.len
  clear h
  have key := rsize_any a W
  go_enter Tryd.func13, Tryd.ntmps13
  go_wp2_with fail
  rw [← hW]
  clear hW
  refine key.mono ?_
  clear key
  rintro e w1 ⟨rfl, rfl⟩
  by_cases ha : sizeV a = 0
  · have HN := Lib.hid (tokB_no (x := ⟨l, a, t, nm⟩) (.inl ha))
    have hvb : (((sizeV a : Nat) : Int) == 0) = true := by rw [ha]; rfl
    clear ha
    go_wp2_with fail
    go_ret
    rw [HN.out]
    exact BytesPost.nil HBW.out
  have hvb : (((sizeV a : Nat) : Int) == 0) = false := by rw [beq_eq_false_iff_ne]; omega
  have HA := Lib.hid ha
  clear ha
  have key := rsize_any t W
  go_wp2_with fail
  refine key.mono ?_
  clear key
  rintro e w1 ⟨rfl, rfl⟩
  by_cases ht : sizeV t = 0
  · have HN := Lib.hid (tokB_no (x := ⟨l, a, t, nm⟩) (.inr (.inl ht)))
    have htb : (((sizeV t : Nat) : Int) == 0) = true := by rw [ht]; rfl
    clear ht
    go_wp2_with fail
    go_ret
    rw [HN.out]
    exact BytesPost.nil HBW.out
  have htb : (((sizeV t : Nat) : Int) == 0) = false := by rw [beq_eq_false_iff_ne]; omega
  have HT := Lib.hid ht
  clear ht
  by_cases hl : 20 < n
  · have HN := Lib.hid (tokB_no (x := ⟨l, a, t, nm⟩) (.inr (.inr (by have := HL.out; show 20 < nm.length; omega))))
    go_wp2_with fail
    go_ret
    rw [HN.out]
    exact BytesPost.nil HBW.out
  have HN : Hid (tokB ⟨l, a, t, nm⟩ = markB l :: (varB a ++ varB t ++ giveB nm)) := tokB_yes (by rintro (h | h | h); exact HA.out h; exact HT.out h; have := HL.out; exact hl (by show 20 < n; have h' : 20 < nm.length := h; omega))
  obtain ⟨V, hV⟩ : ∃ V, V = W.alloc (.cells #[.int .u8 (markB l)] 5) := ⟨_, rfl⟩
  have HBV : Hid (Below W.heap.size W V) := by rw [hV]; exact below_new _
  have HO : Hid (OwnI V W.heap.size .u8 (.slice (some ⟨W.heap.size, 0, none⟩) 1 1) [markB l]) := by
    rw [hV]; exact OwnI.fresh (xs := [markB l]) (t := 5) (Nat.le_refl _) sp_u8 (by simp)
  have m1 := Lib.hid (varB_len a)
  have m2 := Lib.hid (varB_len t)
  have s1 := Lib.hid (sizeV_le a)
  have s2 := Lib.hid (sizeV_le t)
  have x2k := Lib.hid x2
  have x3k := Lib.hid x3
  have key := rbytes_any a V
  have y1 := later_cell HBV.out x1 hlt
  have y2 := later_cell HBV.out x2 hlt
  have y3 := later_cell HBV.out x3 hlt
  have lV : w.heap.size < V.heap.size := by have := HBV.out.size; omega
  cases l with
  | true =>
    go_wp2_with fail
    rw [show W.alloc (.cells #[.int .u8 1] 5) = V from hV.symm]
    clear hV x0 x1 x2 x3
    refine key.mono ?_
    clear key
    rintro e w1 ⟨v1, rfl, ho, hb⟩
    obtain ⟨A1, c1, rfl⟩ := ho.slice
    have HR1 := Lib.hid (ho.rds (B' := 0)).cell
    have HO1 := Lib.hid (HO.out.below hb)
    have HB1 := Lib.hid (HBV.out.trans (hb.mono HBV.out.size))
    clear ho hb
    go_wp2_with (at_builtin; refine wp_app_u8 rfl _ _ rfl rfl rfl HO1.out HR1.out rfl HB1.out.size (by have := m1.out; have := s1.out; simp; omega) ?_)
    intro v2 w2 ho hg hb
    obtain ⟨ys, hys⟩ : ∃ ys, ys = markB true :: varB a := ⟨_, rfl⟩
    rw [← hys] at ho
    have HYS := Lib.hid hys
    have LYS : Hid (ys.length = 1 + sizeV a) := by show _ = _; rw [hys, List.length_cons, m1.out]; omega
    obtain ⟨A2, c2, rfl⟩ := ho.slice
    have HO2 := Lib.hid ho
    have HB2 := Lib.hid (HB1.out.trans hb)
    have z2 := later_cell HB2.out x2k.out hlt
    have z3 := later_cell HB2.out x3k.out hlt
    have l2 : w.heap.size < w2.heap.size := by have := HB2.out.size; omega
    have key := rbytes_any t w2
    clear ho hg hb hys HB1 HO1 HR1 y1 y2 y3 lV
    go_wp2_with fail
    refine key.mono ?_
    clear key
    rintro e w3 ⟨v3, rfl, ho, hb⟩
    obtain ⟨A3, c3, rfl⟩ := ho.slice
    have HR3 := Lib.hid (ho.rds (B' := 0)).cell
    have HO3 := Lib.hid (HO2.out.below hb)
    have HB3 := Lib.hid (HB2.out.trans (hb.mono HB2.out.size))
    clear ho hb
    go_wp2_with (at_builtin; refine wp_app_u8 rfl _ _ rfl rfl rfl HO3.out HR3.out rfl HB3.out.size (by have := m2.out; have := s2.out; have := LYS.out; have := s1.out; omega) ?_)
    intro v4 w4 ho hg hb
    obtain ⟨zs, hzs⟩ : ∃ zs, zs = ys ++ varB t := ⟨_, rfl⟩
    rw [← hzs] at ho
    have HZS := Lib.hid hzs
    have LZS : Hid (zs.length = 1 + sizeV a + sizeV t) := by show _ = _; rw [hzs, List.length_append, m2.out, LYS.out]
    obtain ⟨A4, c4, rfl⟩ := ho.slice
    have HO4 := Lib.hid ho
    have HB4 := Lib.hid (HB3.out.trans hb)
    have q3 := later_cell HB4.out x3k.out hlt
    have l4 : w.heap.size < w4.heap.size := by have := HB4.out.size; omega
    have key := rgive_any A n c nm w4 (HR.out.below HB4.out) (by omega)
    clear ho hg hb hzs HB3 HO3 HR3 z2 z3 l2 HB2 HO2
    go_wp2_with fail
    refine key.mono ?_
    clear key
    rintro e w5 ⟨v5, rfl, ho, hb⟩
    obtain ⟨A5, c5, rfl⟩ := ho.slice
    have HR5 := Lib.hid (ho.rds (B' := 0)).cell
    have HO5 := Lib.hid (HO4.out.below hb)
    have HB5 := Lib.hid (HB4.out.trans (hb.mono HB4.out.size))
    have LG : Hid ((giveB nm).length ≤ 8 + n) := by show _ ≤ _; have := HL.out; have := sizeV_le nm.length; simp [giveB, varB_len]; omega
    clear ho hb q3 l4 HB4 HO4
    go_wp2_with (at_builtin; refine wp_app_u8 rfl _ _ rfl rfl rfl HO5.out HR5.out rfl HB5.out.size (by have := LG.out; have := LZS.out; have := s1.out; have := s2.out; omega) ?_)
    intro v6 w6 ho hg hb
    have HO6 := Lib.hid ho
    have HB6 := Lib.hid (HB5.out.trans hb)
    clear ho hg hb HB5 HO5 HR5
    go_wp2_with fail
    go_ret
    refine ⟨_, rfl, (HO6.out.mono (Nat.le_of_lt hlt)).eq ?_, HBW.out.trans (HB6.out.mono (Nat.le_of_lt hlt))⟩
    rw [HN.out, HZS.out, HYS.out]
    simp
  | false =>
    go_wp2_with fail
    rw [show W.alloc (.cells #[.int .u8 0] 5) = V from hV.symm]
    clear hV x0 x1 x2 x3
    refine key.mono ?_
    clear key
    rintro e w1 ⟨v1, rfl, ho, hb⟩
    obtain ⟨A1, c1, rfl⟩ := ho.slice
    have HR1 := Lib.hid (ho.rds (B' := 0)).cell
    have HO1 := Lib.hid (HO.out.below hb)
    have HB1 := Lib.hid (HBV.out.trans (hb.mono HBV.out.size))
    clear ho hb
    go_wp2_with (at_builtin; refine wp_app_u8 rfl _ _ rfl rfl rfl HO1.out HR1.out rfl HB1.out.size (by have := m1.out; have := s1.out; simp; omega) ?_)
    intro v2 w2 ho hg hb
    obtain ⟨ys, hys⟩ : ∃ ys, ys = markB false :: varB a := ⟨_, rfl⟩
    rw [← hys] at ho
    have HYS := Lib.hid hys
    have LYS : Hid (ys.length = 1 + sizeV a) := by show _ = _; rw [hys, List.length_cons, m1.out]; omega
    obtain ⟨A2, c2, rfl⟩ := ho.slice
    have HO2 := Lib.hid ho
    have HB2 := Lib.hid (HB1.out.trans hb)
    have z2 := later_cell HB2.out x2k.out hlt
    have z3 := later_cell HB2.out x3k.out hlt
    have l2 : w.heap.size < w2.heap.size := by have := HB2.out.size; omega
    have key := rbytes_any t w2
    clear ho hg hb hys HB1 HO1 HR1 y1 y2 y3 lV
    go_wp2_with fail
    refine key.mono ?_
    clear key
    rintro e w3 ⟨v3, rfl, ho, hb⟩
    obtain ⟨A3, c3, rfl⟩ := ho.slice
    have HR3 := Lib.hid (ho.rds (B' := 0)).cell
    have HO3 := Lib.hid (HO2.out.below hb)
    have HB3 := Lib.hid (HB2.out.trans (hb.mono HB2.out.size))
    clear ho hb
    go_wp2_with (at_builtin; refine wp_app_u8 rfl _ _ rfl rfl rfl HO3.out HR3.out rfl HB3.out.size (by have := m2.out; have := s2.out; have := LYS.out; have := s1.out; omega) ?_)
    intro v4 w4 ho hg hb
    obtain ⟨zs, hzs⟩ : ∃ zs, zs = ys ++ varB t := ⟨_, rfl⟩
    rw [← hzs] at ho
    have HZS := Lib.hid hzs
    have LZS : Hid (zs.length = 1 + sizeV a + sizeV t) := by show _ = _; rw [hzs, List.length_append, m2.out, LYS.out]
    obtain ⟨A4, c4, rfl⟩ := ho.slice
    have HO4 := Lib.hid ho
    have HB4 := Lib.hid (HB3.out.trans hb)
    have q3 := later_cell HB4.out x3k.out hlt
    have l4 : w.heap.size < w4.heap.size := by have := HB4.out.size; omega
    have key := rgive_any A n c nm w4 (HR.out.below HB4.out) (by omega)
    clear ho hg hb hzs HB3 HO3 HR3 z2 z3 l2 HB2 HO2
    go_wp2_with fail
    refine key.mono ?_
    clear key
    rintro e w5 ⟨v5, rfl, ho, hb⟩
    obtain ⟨A5, c5, rfl⟩ := ho.slice
    have HR5 := Lib.hid (ho.rds (B' := 0)).cell
    have HO5 := Lib.hid (HO4.out.below hb)
    have HB5 := Lib.hid (HB4.out.trans (hb.mono HB4.out.size))
    have LG : Hid ((giveB nm).length ≤ 8 + n) := by show _ ≤ _; have := HL.out; have := sizeV_le nm.length; simp [giveB, varB_len]; omega
    clear ho hb q3 l4 HB4 HO4
    go_wp2_with (at_builtin; refine wp_app_u8 rfl _ _ rfl rfl rfl HO5.out HR5.out rfl HB5.out.size (by have := LG.out; have := LZS.out; have := s1.out; have := s2.out; omega) ?_)
    intro v6 w6 ho hg hb
    have HO6 := Lib.hid ho
    have HB6 := Lib.hid (HB5.out.trans hb)
    clear ho hg hb HB5 HO5 HR5
    go_wp2_with fail
    go_ret
    refine ⟨_, rfl, (HO6.out.mono (Nat.le_of_lt hlt)).eq ?_, HBW.out.trans (HB6.out.mono (Nat.le_of_lt hlt))⟩
    rw [HN.out, HZS.out, HYS.out]
    simp

theorem str_eq_dec {xs ys : List Int} (hx : Byt xs) (hy : Byt ys) : (((strOfNums xs).toList == (strOfNums ys).toList) : Bool) = decide (xs = ys) := by
  by_cases h : xs = ys
  · subst h
    simp
  · rw [decide_eq_false h, beq_eq_false_iff_ne]
    intro k
    apply h
    refine strOfNums_inj hx hy ?_
    rw [ByteArray.toList_eq, ByteArray.toList_eq] at k
    have := Array.toList_inj.1 k
    cases hs : strOfNums xs with
    | mk d =>
      cases ht : strOfNums ys with
      | mk d' => rw [hs, ht] at this; simp only at this; rw [this]
set_option maxHeartbeats 3200000 in
set_option maxRecDepth 100000 in
theorem told16_any {B B' : Nat} (x y : Tok) (A A' : Option Addr) (c c' : Nat) (w : World) (hx : Rds B w .u8 A x.name.length c x.name) (hy : Rds B' w .u8 A' y.name.length c' y.name) (bx : Byt x.name) (b_y : Byt y.name) :
    Calls Tryd.prog 20 #[TokV x A c, TokV y A' c'] w fun e w' => e = .returned (.bool (decide (x = y))) ∧ Below w.heap.size w w' := by
  obtain ⟨xl, xa, xt, xn⟩ := x
  obtain ⟨yl, ya, yt, yn⟩ := y
  obtain ⟨r, hr⟩ : ∃ r, r = decide ((⟨xl, xa, xt, xn⟩ : Tok) = ⟨yl, ya, yt, yn⟩) := ⟨_, rfl⟩
  have HR := Lib.hid hr
  rw [← hr]
  clear hr
  simp only [TokV] at hx hy bx b_y ⊢
  obtain ⟨W, hW⟩ : ∃ W, W = (w.alloc (.cells #[.bool xl, .int .i64 xa, .int .i64 xt, .slice A xn.length c] 32)).alloc (.cells #[.bool yl, .int .i64 ya, .int .i64 yt, .slice A' yn.length c'] 24) := ⟨_, rfl⟩
  have HB : Hid (Below w.heap.size w W) := by rw [hW]; exact (below_new _).alloc (by simp) _
  have hc1 := run_bytes_string (hx.below HB.out)
  have hc2 := run_bytes_string (hy.below HB.out)
  rw [hW] at hc1 hc2 HB
  have hne : ∀ {b : Bool}, b = false → r = b → r = false := fun h k => k.trans h
  clear hW hx hy hne
  have hse := str_eq_dec bx b_y
  obtain ⟨s1, hs1⟩ : ∃ s, s = strOfNums xn := ⟨_, rfl⟩
  obtain ⟨s2, hs2⟩ : ∃ s, s = strOfNums yn := ⟨_, rfl⟩
  rw [← hs1, ← hs2] at hse
  rw [← hs1] at hc1
  rw [← hs2] at hc2
  have HSE := Lib.hid hse
  clear hse hs1 hs2 bx b_y
  go_enter Tryd.func20, Tryd.ntmps20
  by_cases h1 : xl = yl
  rotate_left
  · have hb : (xl == yl) = false := by simp [h1]
    have HZ : Hid (r = false) := by show _ = _; rw [HR.out, decide_eq_false_iff_not]; intro k; injection k with k1 k2 k3 k4; exact h1 k1
    clear h1 hc1 hc2
    go_wp2_with fail
    go_ret
    exact ⟨by rw [HZ.out]; rfl, HB.out⟩
  subst h1
  by_cases h2 : xa = ya
  rotate_left
  · have hb : (xa == ya) = false := by simp [h2]
    have HZ : Hid (r = false) := by show _ = _; rw [HR.out, decide_eq_false_iff_not]; intro k; injection k with k1 k2 k3 k4; exact h2 k2
    clear h2 hc1 hc2
    go_wp2_with fail
    go_ret
    exact ⟨by rw [HZ.out]; rfl, HB.out⟩
  subst h2
  by_cases h3 : xt = yt
  rotate_left
  · have hb : (xt == yt) = false := by simp [h3]
    have HZ : Hid (r = false) := by show _ = _; rw [HR.out, decide_eq_false_iff_not]; intro k; injection k with k1 k2 k3 k4; exact h3 k3
    clear h3 hc1 hc2
    go_wp2_with fail
    go_ret
    exact ⟨by rw [HZ.out]; rfl, HB.out⟩
  subst h3
  have HZ : Hid (r = (s1.toList == s2.toList)) := by show _ = _; rw [HR.out, HSE.out]; simp
  go_wp2_with fail
  go_ret
  exact ⟨by rw [HZ.out]; rfl, HB.out⟩
end Go.Proofs.YtmaedahleenlgaaDoor

/- Layer 16's laws: the reference's Read and Right, of, awake. No condition but the table of bit places. -/
set_option linter.unusedVariables false
set_option linter.unusedSimpArgs false
namespace Go.Proofs.YtmaedahleenlgaaDoor
open Go Go.RowKit Go.WideMaps

/-- Bytes do not lie in a token's block. -/
theorem Rds.ne_tok {B : Nat} {w : World} {A : Option Addr} {n c : Nat} {xs : List Int} (h : Rds B w .u8 A n c xs) {g : Nat} {l : Bool} {a t : Int} {S : Option Addr} {p q : Nat} {T : TypeId} {fr : Nat × Nat} (hg : w.heap[g]? = some (.cells #[.bool l, .int .i64 a, .int .i64 t, .slice S p q] T fr)) : ∀ b, 0 < n → A = some b → b.block ≠ g := by
  intro b hn e he
  obtain ⟨b', o, rfl, hc⟩ := h.cell.at_ (by have := h.len; omega)
  cases e
  simp only at he
  subst he
  have h0 := hc 0 (by have := h.len; omega)
  rw [cell_of_row w b' (o + 0) _ _ _ hg] at h0
  match o, h0 with
  | 0, h0 => simp at h0
  | 1, h0 => simp at h0
  | 2, h0 => simp at h0
  | 3, h0 => simp at h0
  | o + 4, h0 => simp at h0
theorem Rds.setRow {B : Nat} {w : World} {k : IntKind} {A : Option Addr} {n c : Nat} {xs : List Int} (h : Rds B w k A n c xs) {g : Nat} (cs : Array Value) (hne : ∀ a, 0 < n → A = some a → a.block ≠ g) : Rds B (w.setRow g cs) k A n c xs := by
  refine ⟨h.len, h.cap, h.max, fun j hj => ?_, fun p a e => ?_⟩
  · obtain ⟨ad, e, hc⟩ := h.cell j hj
    refine ⟨ad, e, ?_⟩
    rw [← hc]
    exact World.cell?_of_block (by rw [add_block]; exact setRow_other w g _ _ (hne ad (by have := h.len; omega) e))
  · have hk := h.safe p a e
    have hn := hne a p e
    refine ⟨by simpa using hk.1, hk.2.imp id ?_⟩
    rintro ⟨cs', t, fr, q1, q2⟩
    exact ⟨cs', t, fr, (setRow_other w g _ _ hn).trans q1, q2⟩
def RKPost (B : Nat) (r : Option Tok) (w : World) (e : Ending) (w' : World) : Prop :=
  ∃ A c, e = .returned (.tuple #[TokV (r.getD tok0) A c, .bool r.isSome]) ∧ Rds B w' .u8 A (r.getD tok0).name.length c (r.getD tok0).name ∧ Below w.heap.size w w'
theorem RKPost.no {B : Nat} {r : Option Tok} {w w' : World} (h : r = none) (hb : Below w.heap.size w w') : RKPost B r w (.returned (.tuple #[.agg #[.bool false, .int .i64 0, .int .i64 0, .slice none 0 0], .bool false])) w' := by
  subst h
  exact ⟨none, 0, rfl, Rds.nil _ _ _, hb⟩
theorem RKPost.yes {B : Nat} {r : Option Tok} {w w' : World} {l : Bool} {a t : Int} {nm : List Int} {A : Option Addr} {c : Nat} (h : r = some ⟨l, a, t, nm⟩) (ho : Rds B w' .u8 A nm.length c nm) (hb : Below w.heap.size w w') : RKPost B r w (.returned (.tuple #[.agg #[.bool l, .int .i64 a, .int .i64 t, .slice A nm.length c], .bool true])) w' := by
  subst h
  exact ⟨A, c, rfl, ho, hb⟩
theorem tb16_size : (Tryd.prog.info? 24).map (·.size) = some 4 := by kernel_rfl
set_option maxHeartbeats 6400000 in
set_option maxRecDepth 100000 in
theorem r16read_any {B : Nat} (A : Option Addr) (n c : Nat) (xs : List Int) (w : World) (h : Rds B w .u8 A n c xs) (hb : Byt xs) (hn : n ≤ 1000000) :
    Calls Tryd.prog 23 #[.slice A n c] w (RKPost B (readK xs) w) := by
  have HR := Lib.hid h
  have HL := Lib.hid h.len
  have HY := Lib.hid hb
  obtain ⟨W, hW⟩ : ∃ W, W = w.alloc (.cells #[.bool false, .int .i64 0, .int .i64 0, .slice none 0 0] 24) := ⟨_, rfl⟩
  have HBW : Hid (Below w.heap.size w W) := by rw [hW]; exact below_new _
  have HGW : Hid (W.heap[w.heap.size]? = some (.cells #[.bool false, .int .i64 0, .int .i64 0, .slice none 0 0] 24 (0, 0))) := by rw [hW]; exact heap_alloc_new w _
  have HRW := Lib.hid (HR.out.below HBW.out)
  have no : ¬ kdOk xs → Hid (readK xs = none) := fun h => readK_no h
  clear h hb
  by_cases h0 : n = 0
  · subst h0
    have HN := no fun k => by have := k.1.1; have := HL.out; omega
    clear no hW
    go_enter Tryd.func23, Tryd.ntmps23
    go_wp2_with fail
    go_returns
    exact RKPost.no HN.out (below_new _)
  obtain ⟨bA, oA, rfl, hcx⟩ := RdI.at_ HR.out.cell (by have := HL.out; omega)
  obtain ⟨y, hy⟩ : ∃ y, y = nth xs 0 := ⟨_, rfl⟩
  have g0 := hcx 0 (by have := HL.out; omega)
  rw [← hy, Nat.add_zero] at g0
  have hy0 : 0 ≤ y ∧ y ≤ 255 := by rw [hy]; exact HY.out _ (nth_mem (by have := HL.out; omega))
  have lA : bA < w.heap.size := (HR.out.safe (by omega) _ rfl).1
  have g1 := later_cell HBW.out g0 lA
  have HYn := Lib.hid hy
  have hnb : ((n : Int) == 0) = false := by rw [beq_eq_false_iff_ne]; omega
  have hni : (0 : Int) < n := by omega
  clear hcx hy
  by_cases hy1 : 1 < y
  · have HN := no fun k => by have h1 := k.1.2; rw [← HYn.out] at h1; omega
    clear no hW g1
    go_enter Tryd.func23, Tryd.ntmps23
    go_wp2_with fail
    go_returns
    exact RKPost.no HN.out (below_new _)
  go_enter Tryd.func23, Tryd.ntmps23
  rw [hW] at HRW
  go_wp2_with ((with_reducible show wpList _ _ _ (Oper.mk _ (Op.slice _ _ _ _ _) _ _ _ _ :: _) _ _); refine wp_cut rfl _ _ rfl rfl rfl 1 rfl (by omega) HRW.out ?_; intro hr2; have HR2 := Lib.hid hr2; clear hr2)
  rw [← hW] at HR2 HRW ⊢
  clear hW
  have key := rread_any _ _ _ _ _ HR2.out (byt_drop HY.out 1)
  refine key.mono ?_
  clear key
  rintro e w1 ⟨rfl, rfl⟩
  obtain ⟨a1, s1, e1, k1⟩ : ∃ a s e, kd1 xs = (a, s, e) := ⟨_, _, _, rfl⟩
  have hs1 := readV_size (xs := xs.drop 1)
  rw [show readV (xs.drop 1) = (a1, s1, e1) from k1] at hs1 ⊢
  simp only [List.length_drop] at hs1 ⊢
  have K1 := Lib.hid k1
  have hs1n : s1 ≤ n - 1 := by have := HL.out; omega
  have hw1 : wrap64 (1 + (s1 : Int)) = ((1 + s1 : Nat) : Int) := by unfold wrap64; omega
  have HW1 := Lib.hid hw1
  clear hs1 k1 HR2 hw1
  by_cases he1 : e1 = 0
  rotate_left
  · have HN := no fun k => by have h := k.2.1; rw [K1.out] at h; exact he1 h
    have hb1 : (e1 != 0) = true := by simp [he1]
    clear he1 no
    go_wp2_with ((with_reducible show wpList _ _ _ (Oper.mk _ (Op.store 24 (.tmp 2) _) _ _ _ _ :: _) _ _); (refine wp_store_row rfl rfl _ _ _ rfl w.heap.size _ _ 24 rfl rfl tb16_size HGW.out rfl (by simp [Value.oneCell']) ?_))
    obtain ⟨u, hu⟩ : ∃ u, u = World.setRow W w.heap.size #[.bool false, .int .i64 0, .int .i64 0, .slice none 0 0] := ⟨_, rfl⟩
    rw [← hu]
    have hux : u.heap[w.heap.size]? = some (.cells #[.bool false, .int .i64 0, .int .i64 0, .slice none 0 0] 24 (0, 0)) := by rw [hu]; exact setRow_heap _ w.heap.size _ _ _ _ HGW.out
    have HBu : Hid (Below w.heap.size w u) := by rw [hu]; exact below_setRow HBW.out (Nat.le_refl _) _
    have z0 := cell_of_row u w.heap.size 0 _ _ _ hux
    have z1 := cell_of_row u w.heap.size 1 _ _ _ hux
    have z2 := cell_of_row u w.heap.size 2 _ _ _ hux
    have z3 := cell_of_row u w.heap.size 3 _ _ _ hux
    clear hu hux
    refine bodyPost_ret (v := .tuple #[.agg #[.bool false, .int .i64 0, .int .i64 0, .slice none 0 0], .bool false]) (by simp [results, Tryd.results23, go_sem, z0, z1, z2, z3]) rfl ?_
    exact RKPost.no HN.out HBu.out
  subst he1
  go_wp2_with ((with_reducible show wpList _ _ _ (Oper.mk _ (Op.slice _ _ _ _ _) _ _ _ _ :: _) _ _); refine wp_cut rfl _ _ rfl rfl rfl (1 + s1) (by push_cast; rfl) (by omega) HRW.out ?_; intro hr2; have HR2 := Lib.hid hr2; clear hr2)
  have key := rread_any _ _ _ _ _ HR2.out (byt_drop HY.out _)
  refine key.mono ?_
  clear key
  rintro e w1 ⟨rfl, rfl⟩
  obtain ⟨a2, s2, e2, k2⟩ : ∃ a s e, kd2 xs = (a, s, e) := ⟨_, _, _, rfl⟩
  have hs2 := readV_size (xs := xs.drop (1 + s1))
  rw [show readV (xs.drop (1 + s1)) = (a2, s2, e2) from by have h := k2; unfold kd2 at h; rw [K1.out] at h; exact h] at hs2 ⊢
  simp only [List.length_drop] at hs2 ⊢
  have K2 := Lib.hid k2
  have hs2n : 1 + s1 + s2 ≤ n := by have := HL.out; omega
  clear hs2 k2 HR2
  by_cases he2 : e2 = 0
  rotate_left
  · have HN := no fun k => by have h := k.2.2.1; rw [K2.out] at h; exact he2 h
    have hb1 : (e2 != 0) = true := by simp [he2]
    clear he2 no
    go_wp2_with ((with_reducible show wpList _ _ _ (Oper.mk _ (Op.store 24 (.tmp 2) _) _ _ _ _ :: _) _ _); (refine wp_store_row rfl rfl _ _ _ rfl w.heap.size _ _ 24 rfl rfl tb16_size HGW.out rfl (by simp [Value.oneCell']) ?_))
    obtain ⟨u, hu⟩ : ∃ u, u = World.setRow W w.heap.size #[.bool false, .int .i64 0, .int .i64 0, .slice none 0 0] := ⟨_, rfl⟩
    rw [← hu]
    have hux : u.heap[w.heap.size]? = some (.cells #[.bool false, .int .i64 0, .int .i64 0, .slice none 0 0] 24 (0, 0)) := by rw [hu]; exact setRow_heap _ w.heap.size _ _ _ _ HGW.out
    have HBu : Hid (Below w.heap.size w u) := by rw [hu]; exact below_setRow HBW.out (Nat.le_refl _) _
    have z0 := cell_of_row u w.heap.size 0 _ _ _ hux
    have z1 := cell_of_row u w.heap.size 1 _ _ _ hux
    have z2 := cell_of_row u w.heap.size 2 _ _ _ hux
    have z3 := cell_of_row u w.heap.size 3 _ _ _ hux
    clear hu hux
    refine bodyPost_ret (v := .tuple #[.agg #[.bool false, .int .i64 0, .int .i64 0, .slice none 0 0], .bool false]) (by simp [results, Tryd.results23, go_sem, z0, z1, z2, z3]) rfl ?_
    exact RKPost.no HN.out HBu.out
  subst he2
  go_wp2_with ((with_reducible show wpList _ _ _ (Oper.mk _ (Op.slice _ _ _ _ _) _ _ _ _ :: _) _ _); refine wp_cut rfl _ _ rfl rfl rfl (1 + s1 + s2) (by push_cast; rfl) hs2n HRW.out ?_; intro hr2; have HR2 := Lib.hid hr2; clear hr2)
  have key := rtake_any _ _ _ _ _ HR2.out (byt_drop HY.out _) (by omega)
  refine key.mono ?_
  clear key
  rintro e w4 ⟨A7, c7, A8, c8, rfl, ho7, ho8, hb⟩
  obtain ⟨nm, rs, e3, k3⟩ : ∃ a b e, kd3 xs = (a, b, e) := ⟨_, _, _, rfl⟩
  rw [show takeV (xs.drop (1 + s1 + s2)) = (nm, rs, e3) from by have h := k3; unfold kd3 at h; rw [K1.out, K2.out] at h; exact h] at ho7 ho8 ⊢
  simp only at ho7 ho8 ⊢
  have K3 := Lib.hid k3
  have HO7 := Lib.hid ho7
  have HBW4 := Lib.hid (below_next HBW.out HBW.out.size hb)
  have HGW4 : Hid (w4.heap[w.heap.size]? = some (.cells #[.bool false, .int .i64 0, .int .i64 0, .slice none 0 0] 24 (0, 0))) := (hb.block _ (lt_of_get HGW.out)).trans HGW.out
  have g4 := later_cell hb g1 (by have := HBW.out.size; show bA < _; omega)
  clear HBW HGW
  have HBW := HBW4
  have HGW := HGW4
  clear HBW4 HGW4 ho7 ho8 hb k3 HR2 g1
  by_cases he3 : e3 = 0
  rotate_left
  · have HN := no fun k => by have h := k.2.2.2.1; rw [K3.out] at h; exact he3 h
    have hb1 : (e3 != 0) = true := by simp [he3]
    clear he3 no
    go_wp2_with ((with_reducible show wpList _ _ _ (Oper.mk _ (Op.store 24 (.tmp 2) _) _ _ _ _ :: _) _ _); (refine wp_store_row rfl rfl _ _ _ rfl w.heap.size _ _ 24 rfl rfl tb16_size HGW.out rfl (by simp [Value.oneCell']) ?_))
    obtain ⟨u, hu⟩ : ∃ u, u = World.setRow w4 w.heap.size #[.bool false, .int .i64 0, .int .i64 0, .slice none 0 0] := ⟨_, rfl⟩
    rw [← hu]
    have hux : u.heap[w.heap.size]? = some (.cells #[.bool false, .int .i64 0, .int .i64 0, .slice none 0 0] 24 (0, 0)) := by rw [hu]; exact setRow_heap _ w.heap.size _ _ _ _ HGW.out
    have HBu : Hid (Below w.heap.size w u) := by rw [hu]; exact below_setRow HBW.out (Nat.le_refl _) _
    have z0 := cell_of_row u w.heap.size 0 _ _ _ hux
    have z1 := cell_of_row u w.heap.size 1 _ _ _ hux
    have z2 := cell_of_row u w.heap.size 2 _ _ _ hux
    have z3 := cell_of_row u w.heap.size 3 _ _ _ hux
    clear hu hux
    refine bodyPost_ret (v := .tuple #[.agg #[.bool false, .int .i64 0, .int .i64 0, .slice none 0 0], .bool false]) (by simp [results, Tryd.results23, go_sem, z0, z1, z2, z3]) rfl ?_
    exact RKPost.no HN.out HBu.out
  subst he3
  by_cases hrs : rs.length = 0
  rotate_left
  · have HN := no fun k => by have h := k.2.2.2.2.1; rw [K3.out] at h; exact hrs h
    have hb1 : 0 < (rs.length : Int) := by omega
    have hb2 : 0 < rs.length := by omega
    clear hrs no
    go_wp2_with ((with_reducible show wpList _ _ _ (Oper.mk _ (Op.store 24 (.tmp 2) _) _ _ _ _ :: _) _ _); (refine wp_store_row rfl rfl _ _ _ rfl w.heap.size _ _ 24 rfl rfl tb16_size HGW.out rfl (by simp [Value.oneCell']) ?_))
    obtain ⟨u, hu⟩ : ∃ u, u = World.setRow w4 w.heap.size #[.bool false, .int .i64 0, .int .i64 0, .slice none 0 0] := ⟨_, rfl⟩
    rw [← hu]
    have hux : u.heap[w.heap.size]? = some (.cells #[.bool false, .int .i64 0, .int .i64 0, .slice none 0 0] 24 (0, 0)) := by rw [hu]; exact setRow_heap _ w.heap.size _ _ _ _ HGW.out
    have HBu : Hid (Below w.heap.size w u) := by rw [hu]; exact below_setRow HBW.out (Nat.le_refl _) _
    have z0 := cell_of_row u w.heap.size 0 _ _ _ hux
    have z1 := cell_of_row u w.heap.size 1 _ _ _ hux
    have z2 := cell_of_row u w.heap.size 2 _ _ _ hux
    have z3 := cell_of_row u w.heap.size 3 _ _ _ hux
    clear hu hux
    refine bodyPost_ret (v := .tuple #[.agg #[.bool false, .int .i64 0, .int .i64 0, .slice none 0 0], .bool false]) (by simp [results, Tryd.results23, go_sem, z0, z1, z2, z3]) rfl ?_
    exact RKPost.no HN.out HBu.out
  have hrs' : ¬ 0 < rs.length := by omega
  by_cases hnm : nm.length ≤ 20
  rotate_left
  · have HN := no fun k => by have h := k.2.2.2.2.2; rw [K3.out] at h; exact hnm h
    have hb1 : 20 < (nm.length : Int) := by omega
    clear hnm no
    go_wp2_with ((with_reducible show wpList _ _ _ (Oper.mk _ (Op.store 24 (.tmp 2) _) _ _ _ _ :: _) _ _); (refine wp_store_row rfl rfl _ _ _ rfl w.heap.size _ _ 24 rfl rfl tb16_size HGW.out rfl (by simp [Value.oneCell']) ?_))
    obtain ⟨u, hu⟩ : ∃ u, u = World.setRow w4 w.heap.size #[.bool false, .int .i64 0, .int .i64 0, .slice none 0 0] := ⟨_, rfl⟩
    rw [← hu]
    have hux : u.heap[w.heap.size]? = some (.cells #[.bool false, .int .i64 0, .int .i64 0, .slice none 0 0] 24 (0, 0)) := by rw [hu]; exact setRow_heap _ w.heap.size _ _ _ _ HGW.out
    have HBu : Hid (Below w.heap.size w u) := by rw [hu]; exact below_setRow HBW.out (Nat.le_refl _) _
    have z0 := cell_of_row u w.heap.size 0 _ _ _ hux
    have z1 := cell_of_row u w.heap.size 1 _ _ _ hux
    have z2 := cell_of_row u w.heap.size 2 _ _ _ hux
    have z3 := cell_of_row u w.heap.size 3 _ _ _ hux
    clear hu hux
    refine bodyPost_ret (v := .tuple #[.agg #[.bool false, .int .i64 0, .int .i64 0, .slice none 0 0], .bool false]) (by simp [results, Tryd.results23, go_sem, z0, z1, z2, z3]) rfl ?_
    exact RKPost.no HN.out HBu.out
  · obtain ⟨l, hl⟩ : ∃ l, l = (y == 1) := ⟨_, rfl⟩
    have hlb : (y == 1) = l := hl.symm
    have HN : Hid (readK xs = some ⟨l, a1, a2, nm⟩) := by
      show _ = _
      rw [readK_yes ⟨⟨by have := HL.out; omega, by rw [← HYn.out]; omega⟩, by rw [K1.out], by rw [K2.out], by rw [K3.out], by rw [K3.out]; exact hrs, by rw [K3.out]; exact hnm⟩, K1.out, K2.out, K3.out, ← HYn.out]
      have : decide (y = 1) = l := by rw [hl]; rfl
      rw [this]
    have hb1 : ¬ 20 < (nm.length : Int) := by omega
    clear hnm no hl
    go_wp2_with ((with_reducible show wpList _ _ _ (Oper.mk _ (Op.store 24 (.tmp 2) _) _ _ _ _ :: _) _ _); (refine wp_store_row rfl rfl _ _ _ rfl w.heap.size _ _ 24 rfl rfl tb16_size HGW.out rfl (by simp [Value.oneCell']) ?_))
    obtain ⟨u, hu⟩ : ∃ u, u = World.setRow w4 w.heap.size #[.bool l, .int .i64 a1, .int .i64 a2, .slice A7 nm.length c7] := ⟨_, rfl⟩
    rw [← hu]
    have hux : u.heap[w.heap.size]? = some (.cells #[.bool l, .int .i64 a1, .int .i64 a2, .slice A7 nm.length c7] 24 (0, 0)) := by rw [hu]; exact setRow_heap _ w.heap.size _ _ _ _ HGW.out
    have HBu : Hid (Below w.heap.size w u) := by rw [hu]; exact below_setRow HBW.out (Nat.le_refl _) _
    have HOu : Hid (Rds B u .u8 A7 nm.length c7 nm) := by rw [hu]; exact HO7.out.setRow _ (HO7.out.ne_tok HGW.out)
    have z0 := cell_of_row u w.heap.size 0 _ _ _ hux
    have z1 := cell_of_row u w.heap.size 1 _ _ _ hux
    have z2 := cell_of_row u w.heap.size 2 _ _ _ hux
    have z3 := cell_of_row u w.heap.size 3 _ _ _ hux
    clear hu hux
    refine bodyPost_ret (v := .tuple #[.agg #[.bool l, .int .i64 a1, .int .i64 a2, .slice A7 nm.length c7], .bool true]) (by simp [results, Tryd.results23, go_sem, z0, z1, z2, z3]) rfl ?_
    exact RKPost.yes HN.out HOu.out HBu.out
end Go.Proofs.YtmaedahleenlgaaDoor

/- Layer 16's laws: Right, of, awake. No condition but the table of bit places. -/
set_option linter.unusedVariables false
set_option linter.unusedSimpArgs false
namespace Go.Proofs.YtmaedahleenlgaaDoor
open Go Go.RowKit Go.WideMaps

set_option maxHeartbeats 1600000 in
set_option maxRecDepth 100000 in
theorem r16right_any (x : Tok) (A : Option Addr) (c : Nat) (addr now life : Int) (w : World) (t0 : 0 ≤ x.time) (t1 : x.time ≤ 4611686018427387903) (hn : Fit now) :
    Calls Tryd.prog 19 #[TokV x A c, .int .i64 addr, .int .i64 now, .int .i64 life] w fun e w' => e = .returned (.int .i64 (rightK x addr now life)) ∧ Below w.heap.size w w' := by
  obtain ⟨xl, xa, xt, xn⟩ := x
  obtain ⟨E, hE⟩ : ∃ E, E = rightK ⟨xl, xa, xt, xn⟩ addr now life := ⟨_, rfl⟩
  rw [← hE]
  have HE := Lib.hid hE
  have hn1 := hn.2
  simp only [TokV] at t0 t1 ⊢
  clear hE
  go_enter Tryd.func19, Tryd.ntmps19
  by_cases ha : xa = addr
  rotate_left
  · have HN : Hid (E = 14) := by show _ = _; rw [HE.out]; exact if_pos ha
    have hab : (xa != addr) = true := by simp [ha]
    clear ha
    go_wp2_with fail
    go_ret
    exact ⟨by rw [HN.out]; rfl, below_new _⟩
  have HA := Lib.hid ha
  have hab : (xa != addr) = false := by simp [ha]
  clear ha
  by_cases h1 : now < xt
  · have HN : Hid (E = 9) := by show _ = _; rw [HE.out]; unfold rightK; rw [if_neg (by show ¬ xa ≠ addr; simp [HA.out]), if_pos (.inl h1)]
    go_wp2_with fail
    go_ret
    exact ⟨by rw [HN.out]; rfl, below_new _⟩
  have hsub : IntKind.i64.wrap (now - xt) = now - xt := by rw [IntKind.wrap_i64]; omega
  by_cases h2 : life < now - xt
  · have HN : Hid (E = 9) := by show _ = _; rw [HE.out]; unfold rightK; rw [if_neg (by show ¬ xa ≠ addr; simp [HA.out]), if_pos (.inr h2)]
    go_wp2_with fail
    go_ret
    exact ⟨by rw [HN.out]; rfl, below_new _⟩
  · have HN : Hid (E = 0) := by show _ = _; rw [HE.out]; unfold rightK; rw [if_neg (by show ¬ xa ≠ addr; simp [HA.out]), if_neg (by show ¬ (now < xt ∨ life < now - xt); omega)]
    go_wp2_with fail
    go_ret
    exact ⟨by rw [HN.out]; rfl, below_new _⟩

/-- Four cells are stored one by one. -/
theorem set4_tok {w : World} {g : Nat} {T : TypeId} {p q r s : Value} (h : w.heap[g]? = some (.cells #[p, q, r, s] T (0, 0))) (a b c d : Value) :
    ((((w.setCell ⟨g, 0, none⟩ a).setCell ⟨g, 1, none⟩ b).setCell ⟨g, 2, none⟩ c).setCell ⟨g, 3, none⟩ d).heap[g]? = some (.cells #[a, b, c, d] T (0, 0)) := by
  have h1 := blk_set1 (i := 0) h a
  have h2 := blk_set1 (i := 1) h1 b
  have h3 := blk_set1 (i := 2) h2 c
  have h4 := blk_set1 (i := 3) h3 d
  rw [h4]
  rfl
theorem four_keep {w V : World} {g : Nat} (hg : w.heap.size ≠ g) {x0 x1 x2 x3 : Value} (a b c d : Value) (h : V.cell? ⟨w.heap.size, 0, none⟩ = some x0 ∧ V.cell? ⟨w.heap.size, 1, none⟩ = some x1 ∧ V.cell? ⟨w.heap.size, 2, none⟩ = some x2 ∧ V.cell? ⟨w.heap.size, 3, none⟩ = some x3) :
    ((((V.setCell ⟨g, 0, none⟩ a).setCell ⟨g, 1, none⟩ b).setCell ⟨g, 2, none⟩ c).setCell ⟨g, 3, none⟩ d).cell? ⟨w.heap.size, 0, none⟩ = some x0 ∧ ((((V.setCell ⟨g, 0, none⟩ a).setCell ⟨g, 1, none⟩ b).setCell ⟨g, 2, none⟩ c).setCell ⟨g, 3, none⟩ d).cell? ⟨w.heap.size, 1, none⟩ = some x1 ∧
      ((((V.setCell ⟨g, 0, none⟩ a).setCell ⟨g, 1, none⟩ b).setCell ⟨g, 2, none⟩ c).setCell ⟨g, 3, none⟩ d).cell? ⟨w.heap.size, 2, none⟩ = some x2 ∧ ((((V.setCell ⟨g, 0, none⟩ a).setCell ⟨g, 1, none⟩ b).setCell ⟨g, 2, none⟩ c).setCell ⟨g, 3, none⟩ d).cell? ⟨w.heap.size, 3, none⟩ = some x3 := by
  have hn : ∀ (i j : Nat) (W : World) (v : Value), (W.setCell ⟨g, j, none⟩ v).cell? ⟨w.heap.size, i, none⟩ = W.cell? ⟨w.heap.size, i, none⟩ := fun i j W v => World.cell?_of_block (blk_other1 W v hg)
  simp only [hn]
  exact h
def OfPost (x : Tok) (w : World) (e : Ending) (w' : World) : Prop := ∃ A c, e = .returned (TokV x A c) ∧ OwnI w' w.heap.size .u8 (.slice A x.name.length c) x.name ∧ Below w.heap.size w w'
set_option maxHeartbeats 3200000 in
set_option maxRecDepth 100000 in
theorem of16_any {B : Nat} (l : Bool) (a t : Int) (nm : List Int) (A : Option Addr) (n c : Nat) (w : World) (h : Rds B w .u8 A n c nm) (hn : n ≤ 1000000) :
    Calls Tryd.prog 12 #[.agg #[.bool l, .int .i64 a, .int .i64 t, .slice A n c]] w (OfPost ⟨l, a, t, nm⟩ w) := by
  obtain ⟨W, hW⟩ : ∃ W, W = (w.alloc (.cells #[.bool l, .int .i64 a, .int .i64 t, .slice A n c] 24)).alloc (.cells #[.bool false, .int .i64 0, .int .i64 0, .slice none 0 0] 32) := ⟨_, rfl⟩
  have HBW : Hid (Below w.heap.size w W) := by rw [hW]; exact (below_new _).alloc (by simp) _
  have HSW : Hid (W.heap.size = w.heap.size + 1 + 1) := by rw [hW]; show _ = _; simp
  have hx : W.heap[w.heap.size]? = some (.cells #[.bool l, .int .i64 a, .int .i64 t, .slice A n c] 24 (0, 0)) := by rw [hW]; exact (Below.heap_alloc _ _ _ (by simp)).trans (heap_alloc_new w _)
  have hr : W.heap[w.heap.size + 1]? = some (.cells #[.bool false, .int .i64 0, .int .i64 0, .slice none 0 0] 32 (0, 0)) := by
    have := heap_alloc_new (w.alloc (.cells #[.bool l, .int .i64 a, .int .i64 t, .slice A n c] 24)) (.cells #[.bool false, .int .i64 0, .int .i64 0, .slice none 0 0] 32)
    rw [World.size_alloc] at this
    rw [hW]; exact this
  have HX := Lib.hid hx
  have HG := Lib.hid hr
  have x0 : W.cell? ⟨w.heap.size, 0, none⟩ = some (.bool l) := by rw [cell_of_row W _ 0 _ _ _ hx]; rfl
  have x1 : W.cell? ⟨w.heap.size, 1, none⟩ = some (.int .i64 a) := by rw [cell_of_row W _ 1 _ _ _ hx]; rfl
  have x2 : W.cell? ⟨w.heap.size, 2, none⟩ = some (.int .i64 t) := by rw [cell_of_row W _ 2 _ _ _ hx]; rfl
  have x3 : W.cell? ⟨w.heap.size, 3, none⟩ = some (.slice A n c) := by rw [cell_of_row W _ 3 _ _ _ hx]; rfl
  have HR := Lib.hid (h.below HBW.out)
  have HL := Lib.hid h.len
  clear h hx hr
  go_enter Tryd.func12, Tryd.ntmps12
  go_wp2_with fail
  rw [← hW]
  clear hW
  have lt : w.heap.size < W.heap.size := by have := HSW.out; omega
  have S0 : Hid (W.drew.cell? ⟨w.heap.size, 0, none⟩ = some (.bool l) ∧ W.drew.cell? ⟨w.heap.size, 1, none⟩ = some (.int .i64 a) ∧ W.drew.cell? ⟨w.heap.size, 2, none⟩ = some (.int .i64 t) ∧ W.drew.cell? ⟨w.heap.size, 3, none⟩ = some (.slice A n c)) := ⟨x0, x1, x2, x3⟩
  have S1 : Hid ((W.alloc (.cells #[] 5)).drew.cell? ⟨w.heap.size, 0, none⟩ = some (.bool l) ∧ (W.alloc (.cells #[] 5)).drew.cell? ⟨w.heap.size, 1, none⟩ = some (.int .i64 a) ∧ (W.alloc (.cells #[] 5)).drew.cell? ⟨w.heap.size, 2, none⟩ = some (.int .i64 t) ∧ (W.alloc (.cells #[] 5)).drew.cell? ⟨w.heap.size, 3, none⟩ = some (.slice A n c)) :=
    ⟨later_cell (below_new _).drew x0 lt, later_cell (below_new _).drew x1 lt, later_cell (below_new _).drew x2 lt, later_cell (below_new _).drew x3 lt⟩
  have HOE : Hid (OwnI (W.alloc (.cells #[] 5)).drew W.heap.size .u8 (.slice (some ⟨W.heap.size, 0, none⟩) 0 0) []) := OwnI.below (OwnI.empty (Nat.le_refl _) sp_u8) (Below.refl _ _).drew
  have HBE : Hid (Below W.heap.size W (W.alloc (.cells #[] 5)).drew) := (below_new _).drew
  have HRE := Lib.hid (HR.out.below HBE.out).cell
  go_region_held3 (fun w' => w'.cell? ⟨w.heap.size, 0, none⟩ = some (.bool l) ∧ w'.cell? ⟨w.heap.size, 1, none⟩ = some (.int .i64 a) ∧ w'.cell? ⟨w.heap.size, 2, none⟩ = some (.int .i64 t) ∧ w'.cell? ⟨w.heap.size, 3, none⟩ = some (.slice A n c)) (first | with_reducible exact S0.out | with_reducible exact S1.out | with_reducible exact S2.out | with_reducible exact S3.out | go_keep) ((first
    | (refine step_app_u8 (xs := []) (ys := nm) rfl _ _ rfl rfl rfl HOE.out HRE.out HL.out HBE.out.size (by simp; omega) ?_
       intro v3 w3 ho hg hb
       rw [List.nil_append] at ho
       obtain ⟨A3, c3, rfl⟩ := ho.slice
       have HB3 := Lib.hid (HBE.out.trans hb)
       have HO3 := Lib.hid ho
       have HG3 : Hid (w3.heap[w.heap.size + 1]? = some (.cells #[.bool false, .int .i64 0, .int .i64 0, .slice none 0 0] 32 (0, 0))) := (HB3.out.block _ (by have := HSW.out; omega)).trans HG.out
       have S2 : Hid (w3.cell? ⟨w.heap.size, 0, none⟩ = some (.bool l) ∧ w3.cell? ⟨w.heap.size, 1, none⟩ = some (.int .i64 a) ∧ w3.cell? ⟨w.heap.size, 2, none⟩ = some (.int .i64 t) ∧ w3.cell? ⟨w.heap.size, 3, none⟩ = some (.slice A n c)) := ⟨later_cell HB3.out x0 lt, later_cell HB3.out x1 lt, later_cell HB3.out x2 lt, later_cell HB3.out x3 lt⟩
       have r0 : w3.cell? ⟨w.heap.size + 1, 0, none⟩ = some (.bool false) := by rw [cell_of_row w3 _ 0 _ _ _ HG3.out]; rfl
       have r1 : w3.cell? ⟨w.heap.size + 1, 1, none⟩ = some (.int .i64 0) := by rw [cell_of_row w3 _ 1 _ _ _ HG3.out]; rfl
       have r2 : w3.cell? ⟨w.heap.size + 1, 2, none⟩ = some (.int .i64 0) := by rw [cell_of_row w3 _ 2 _ _ _ HG3.out]; rfl
       have r3 : w3.cell? ⟨w.heap.size + 1, 3, none⟩ = some (.slice none 0 0) := by rw [cell_of_row w3 _ 3 _ _ _ HG3.out]; rfl
       have f0 := free_row HG3.out 0
       have f1 := free_row HG3.out 1
       have f2 := free_row HG3.out 2
       have f3 := free_row HG3.out 3
       have S3 := Lib.hid (four_keep (w := w) (g := w.heap.size + 1) (by omega) (.bool l) (.int .i64 a) (.int .i64 t) (.slice A3 nm.length c3) S2.out)
       clear ho hg hb HOE HRE HBE)))
  all_goals
    rename_i hHeld
    clear hHeld
    obtain ⟨u, hu⟩ : ∃ u, u = ((((w3.setCell ⟨w.heap.size + 1, 0, none⟩ (.bool l)).setCell ⟨w.heap.size + 1, 1, none⟩ (.int .i64 a)).setCell ⟨w.heap.size + 1, 2, none⟩ (.int .i64 t)).setCell ⟨w.heap.size + 1, 3, none⟩ (.slice A3 nm.length c3)) := ⟨_, rfl⟩
    rw [← hu]
    have hux : TbAt u (w.heap.size + 1) l a t (.slice A3 nm.length c3) := by rw [hu]; exact set4_tok HG3.out _ _ _ _
    have hq : w.heap.size ≤ w.heap.size + 1 := Nat.le_succ _
    have hq2 : w.heap.size + 1 < W.heap.size := by have := HSW.out; omega
    have HBu : Hid (Below w.heap.size w u) := by rw [hu]; exact ((((HBW.out.trans (HB3.out.mono HBW.out.size)).setCell hq _).setCell hq _).setCell hq _).setCell hq _
    have HOu : Hid (OwnI u w.heap.size .u8 (.slice A3 nm.length c3) nm) := by rw [hu]; exact ((((HO3.out.setBelow hq2 _).setBelow hq2 _).setBelow hq2 _).setBelow hq2 _).mono (Nat.le_of_lt lt)
    have z0 := hux.x0
    have z1 := hux.x1
    have z2 := hux.x2
    have z3 := hux.x3
    clear hu hux
    go_wp2_with fail
    refine bodyPost_ret (v := .agg #[.bool l, .int .i64 a, .int .i64 t, .slice A3 nm.length c3]) (by simp [results, Tryd.results12, go_sem, z0, z1, z2, z3]) rfl ?_
    exact ⟨A3, c3, rfl, HOu.out, HBu.out⟩

set_option maxHeartbeats 1600000 in
set_option maxRecDepth 100000 in
theorem awake16_any (w : World) (hz : Tz w) : Calls Tryd.prog 14 #[] w (AwakePost w) := by
  have HZ := Lib.hid hz
  clear hz
  go_enter Tryd.func14, Tryd.ntmps14
  go_wp2_with fail
  refine (new_any w).mono ?_
  rintro e w1 ⟨tb, rfl, ht1, hb1⟩
  have HB1 := Lib.hid hb1
  have key := secret_any w1 ht1
  clear hb1 ht1
  go_wp2_with fail
  refine key.mono ?_
  clear key
  rintro e w2 p
  obtain ⟨rfl, ht, hf⟩ := p.intro sec1
  have HB2 := Lib.hid (HB1.out.trans (hf.below HB1.out.size))
  have HW2 := Lib.hid ht.1
  have key := mint_any (B' := 0) 1 false 5 10 [] none 0 0 w2 ht ⟨by decide, by decide⟩ (Rds.nil _ _ _) (by decide) (HZ.out.later HB2.out)
  clear p ht hf HB1
  go_wp2_with fail
  refine key.mono ?_
  clear key
  rintro e w4 p
  obtain ⟨tx, hT, -⟩ := mint_at (key := 1) (x := ⟨false, 5, 10, []⟩) HW2.out (by decide) sec_in1 (by decide)
  obtain ⟨⟨T4, h⟩, e4⟩ : ∃ r, mintT [secN] 1 ⟨false, 5, 10, []⟩ = r := ⟨_, rfl⟩
  rw [e4] at hT
  obtain ⟨rfl, ht, hf⟩ := p.intro e4
  simp only at hT
  have HB4 := Lib.hid (HB2.out.trans (hf.below HB2.out.size))
  have HT4 := Lib.hid ht
  have hh := hT.pos
  have hhb : (h != 0) = true := by simp [hh]
  have HFh := Lib.hid (fit_in ht.1 hT.sl.in_)
  have HLK : Hid (lookK T4 1 h = some ⟨false, 5, 10, []⟩) := hT.lookN (by decide) (fun x hx => by simp at hx)
  have key := tcheck_any 1 h 5 13 3 w4 ht HFh.out ⟨by decide, by decide⟩
  rw [HLK.out, show checkX (some ⟨false, 5, 10, []⟩) 5 13 3 = ⟨false, 5, 10, []⟩ from by decide, show checkE (some ⟨false, 5, 10, []⟩) 5 13 3 = 0 from by decide] at key
  clear p e4 ht hf HB2 hT hh HW2
  go_wp2_with fail
  refine key.mono ?_
  clear key
  rintro e w5 ⟨A5, c5, rfl, ho, hb⟩
  simp only [TokV, List.length_nil]
  obtain ⟨V5, hV⟩ : ∃ V, V = w5.alloc (.cells #[.bool false, .int .i64 5, .int .i64 10, .slice A5 0 c5] 32) := ⟨_, rfl⟩
  have hbV : Below w5.heap.size w5 V5 := by rw [hV]; exact below_new _
  have HB5 := Lib.hid (below_next HB4.out HB4.out.size (below_next hb hb.size hbV))
  have HT5 := Lib.hid (HT4.out.below (below_next hb hb.size hbV))
  have key := tcheck_any 1 h 5 14 3 V5 HT5.out HFh.out ⟨by decide, by decide⟩
  rw [HLK.out, show checkX (some ⟨false, 5, 10, []⟩) 5 14 3 = tok0 from by decide, show checkE (some ⟨false, 5, 10, []⟩) 5 14 3 = 9 from by decide] at key
  clear hb hbV HB4 HT4 ho HLK
  go_wp2_with fail
  rw [← hV]
  clear hV
  refine key.mono ?_
  clear key
  rintro e w6 ⟨A6, c6, rfl, ho, hb⟩
  simp only [TokV, tok0, List.length_nil]
  have HB6 := Lib.hid (below_next HB5.out HB5.out.size hb)
  clear ho hb
  go_wp2_with fail
  go_ret
  exact ⟨rfl, HB6.out.alloc HB6.out.size _⟩
end Go.Proofs.YtmaedahleenlgaaDoor

/- What the walks of layer 16's laws keep. No condition. -/
set_option linter.unusedVariables false
set_option linter.unusedSimpArgs false
namespace Go.Proofs.YtmaedahleenlgaaDoor
open Go Go.RowKit Go.WideMaps

/-- A local token of the reference. -/
def RtAt (V : World) (g : Nat) (x : Tok) (A : Option Addr) (c : Nat) : Prop := V.heap[g]? = some (.cells #[.bool x.later, .int .i64 x.addr, .int .i64 x.time, .slice A x.name.length c] 24 (0, 0))
theorem RtAt.cells {V : World} {g : Nat} {x : Tok} {A : Option Addr} {c : Nat} (h : RtAt V g x A c) : V.cell? ⟨g, 0, none⟩ = some (.bool x.later) ∧ V.cell? ⟨g, 1, none⟩ = some (.int .i64 x.addr) ∧ V.cell? ⟨g, 2, none⟩ = some (.int .i64 x.time) ∧ V.cell? ⟨g, 3, none⟩ = some (.slice A x.name.length c) := by
  refine ⟨?_, ?_, ?_, ?_⟩
  · rw [cell_of_row V _ 0 _ _ _ h]; rfl
  · rw [cell_of_row V _ 1 _ _ _ h]; rfl
  · rw [cell_of_row V _ 2 _ _ _ h]; rfl
  · rw [cell_of_row V _ 3 _ _ _ h]; rfl
/-- All that the walk keeps: the table; an argument of the reference's kind; whatever else stands in given blocks. -/
structure BunM (w : World) (B0 tb : Nat) (g : Nat) (x : Tok) (A : Option Addr) (c : Nat) (X : World → Prop) (T : List Nd) (V : World) : Prop where
  tab : IsTab B0 V tb T
  rt : RtAt V g x A c
  nm : Rds w.heap.size V .u8 A x.name.length c x.name
  bl : Below w.heap.size w V
  ex : X V
theorem BunM.below {w : World} {B0 tb g : Nat} {x : Tok} {A : Option Addr} {c : Nat} {X : World → Prop} {T : List Nd} {V V' : World} (h : BunM w B0 tb g x A c X T V) (hX : ∀ V V', X V → Below V.heap.size V V' → X V') (hb : Below V.heap.size V V') : BunM w B0 tb g x A c X T V' :=
  ⟨h.tab.below hb, (hb.block _ (lt_of_get h.rt)).trans h.rt, h.nm.below hb, below_next h.bl h.bl.size hb, hX _ _ h.ex hb⟩
theorem BunM.frm {w : World} {B0 tb g : Nat} {x : Tok} {A : Option Addr} {c : Nat} {X : World → Prop} {T T' : List Nd} {V V' : World} (h : BunM w B0 tb g x A c X T V) (hX : ∀ V V', X V → Frm tabO B0 V V' → X V') (ht : IsTab B0 V' tb T') (hf : Frm tabO B0 V V') (hB : w.heap.size ≤ B0) : BunM w B0 tb g x A c X T' V' :=
  ⟨ht, hf.block _ _ h.rt (.inr rfl), h.nm.frm (hf.weak hB).tab_sp, h.bl.trans ((hf.weak hB).below h.bl.size), hX _ _ h.ex hf⟩
/-- A local row of three numbers. -/
def AskAt (V : World) (g : Nat) (a b c : Int) : Prop := V.heap[g]? = some (.cells #[.int .i64 a, .int .i64 b, .int .i64 c] 26 (0, 0))
theorem AskAt.cells {V : World} {g : Nat} {a b c : Int} (h : AskAt V g a b c) : V.cell? ⟨g, 0, none⟩ = some (.int .i64 a) ∧ V.cell? ⟨g, 1, none⟩ = some (.int .i64 b) ∧ V.cell? ⟨g, 2, none⟩ = some (.int .i64 c) := by
  refine ⟨?_, ?_, ?_⟩
  · rw [cell_of_row V _ 0 _ _ _ h]; rfl
  · rw [cell_of_row V _ 1 _ _ _ h]; rfl
  · rw [cell_of_row V _ 2 _ _ _ h]; rfl
theorem AskAt.b {g : Nat} {a b c : Int} : ∀ V V', AskAt V g a b c → Below V.heap.size V V' → AskAt V' g a b c := fun V V' h hb => (hb.block _ (lt_of_get h)).trans h
theorem AskAt.f {B0 g : Nat} {a b c : Int} : ∀ V V', AskAt V g a b c → Frm tabO B0 V V' → AskAt V' g a b c := fun V V' h hf => hf.block _ _ h (.inr rfl)
theorem RtAt.b {g : Nat} {x : Tok} {A : Option Addr} {c : Nat} : ∀ V V', RtAt V g x A c → Below V.heap.size V V' → RtAt V' g x A c := fun V V' h hb => (hb.block _ (lt_of_get h)).trans h
theorem RtAt.f {B0 g : Nat} {x : Tok} {A : Option Addr} {c : Nat} : ∀ V V', RtAt V g x A c → Frm tabO B0 V V' → RtAt V' g x A c := fun V V' h hf => hf.block _ _ h (.inr rfl)
theorem RtAt.lt {V : World} {g : Nat} {x : Tok} {A : Option Addr} {c : Nat} (h : RtAt V g x A c) : g < V.heap.size := lt_of_get h
end Go.Proofs.YtmaedahleenlgaaDoor

/- A token of the reference, and an ask, as arguments. No condition. -/
set_option linter.unusedVariables false
set_option linter.unusedSimpArgs false
namespace Go.Proofs.YtmaedahleenlgaaDoor
open Go Go.RowKit Go.ChangeShapes Go.WideShapes Go.ChangeAt

def TokArg (w : World) (v : Value) : Prop := ∃ x A c, v = TokV x A c ∧ Rds w.heap.size w .u8 A x.name.length c x.name ∧ Byt x.name
theorem arr4 {cs : Array Value} {a b c d : Value} (h : cs.size = 4) (h0 : cs[0]? = some a) (h1 : cs[1]? = some b) (h2 : cs[2]? = some c) (h3 : cs[3]? = some d) : cs = #[a, b, c, d] := by
  obtain ⟨l⟩ := cs
  match l, h with
  | [x, y, z, u], _ => simp at h0 h1 h2 h3; rw [h0, h1, h2, h3]
theorem under_tk16 : ∃ fs : Array Field, Tryd.prog.underlying 24 = some (.struct fs) ∧ Deep.oneCellFields Tryd.prog fs = true ∧ Tryd.prog.cellsOf 24 = fs.size ∧ fs[0]?.map (·.type) = some 4 ∧ fs[1]?.map (·.type) = some 3 ∧ fs[2]?.map (·.type) = some 3 ∧ fs[3]?.map (·.type) = some 22 ∧ fs.size = 4 :=
  ⟨_, Tryd.underlying24, by kernel_rfl, by kernel_rfl, rfl, rfl, rfl, rfl, rfl⟩
theorem under_ask : ∃ fs : Array Field, Tryd.prog.underlying 26 = some (.struct fs) ∧ Deep.oneCellFields Tryd.prog fs = true ∧ Tryd.prog.cellsOf 26 = fs.size ∧ fs[0]?.map (·.type) = some 3 ∧ fs[1]?.map (·.type) = some 3 ∧ fs[2]?.map (·.type) = some 3 ∧ fs.size = 3 :=
  ⟨_, Tryd.underlying26, by kernel_rfl, by kernel_rfl, rfl, rfl, rfl, rfl⟩
theorem cells_u8_16 : Tryd.prog.cellsOf 5 = 1 := by kernel_rfl
set_option maxRecDepth 100000 in
theorem open_tk16 {H : Type} {enc : TypeId × Value → H} {w : World} {r : Reach} {b0 base : Nat} {v : Value} {d : DataW H} {p : List MemPlace} (hv : Value.okWide Tryd.prog w r b0 24 v)
    (h : DataW.Trod enc Tryd.prog w base (fun _ => true) true 24 v d p) : TokArg w v := by
  obtain ⟨fs, hu, hone, hC, f0, f1, f2, f3, hsz⟩ := under_tk16
  obtain ⟨cs, rfl, hl, hf⟩ := agg_fields hu hone hC hv h
  obtain ⟨g0, j0, k0⟩ := Option.map_eq_some_iff.1 f0
  obtain ⟨g1, j1, k1⟩ := Option.map_eq_some_iff.1 f1
  obtain ⟨g2, j2, k2⟩ := Option.map_eq_some_iff.1 f2
  obtain ⟨g3, j3, k3⟩ := Option.map_eq_some_iff.1 f3
  obtain ⟨u0, y0, n0, e0, t0⟩ := hf 0 _ j0
  obtain ⟨u1, y1, n1, e1, t1⟩ := hf 1 _ j1
  obtain ⟨u2, y2, n2, e2, t2⟩ := hf 2 _ j2
  obtain ⟨u3, y3, n3, e3, t3⟩ := hf 3 _ j3
  rw [k0] at t0
  rw [k1] at t1
  rw [k2] at t2
  rw [k3] at t3
  obtain ⟨l, rfl⟩ := cell_bool Tryd.underlying4 t0
  obtain ⟨a, rfl, -⟩ := cell_i64 Tryd.underlying3 t1
  obtain ⟨b, rfl, -⟩ := cell_i64 Tryd.underlying3 t2
  obtain ⟨A, c, xs, rfl, hr, hb⟩ := cell_rds Tryd.underlying22 Tryd.underlying5 cells_u8_16 t3
  exact ⟨⟨l, a, b, xs⟩, A, c, by rw [arr4 (hl.trans hsz) e0 e1 e2 e3]; rfl, hr, fun y hy => wf_byte (hb y hy)⟩
def AskArg (v : Value) : Prop := ∃ a b c, v = .agg #[.int .i64 a, .int .i64 b, .int .i64 c]
set_option maxRecDepth 100000 in
theorem open_ask {H : Type} {enc : TypeId × Value → H} {w : World} {r : Reach} {b0 base : Nat} {v : Value} {d : DataW H} {p : List MemPlace} (hv : Value.okWide Tryd.prog w r b0 26 v)
    (h : DataW.Trod enc Tryd.prog w base (fun _ => true) true 26 v d p) : AskArg v := by
  obtain ⟨fs, hu, hone, hC, f0, f1, f2, hsz⟩ := under_ask
  obtain ⟨cs, rfl, hl, hf⟩ := agg_fields hu hone hC hv h
  obtain ⟨g0, j0, k0⟩ := Option.map_eq_some_iff.1 f0
  obtain ⟨g1, j1, k1⟩ := Option.map_eq_some_iff.1 f1
  obtain ⟨g2, j2, k2⟩ := Option.map_eq_some_iff.1 f2
  obtain ⟨u0, y0, n0, e0, t0⟩ := hf 0 _ j0
  obtain ⟨u1, y1, n1, e1, t1⟩ := hf 1 _ j1
  obtain ⟨u2, y2, n2, e2, t2⟩ := hf 2 _ j2
  rw [k0] at t0
  rw [k1] at t1
  rw [k2] at t2
  obtain ⟨a, rfl, -⟩ := cell_i64 Tryd.underlying3 t0
  obtain ⟨b, rfl, -⟩ := cell_i64 Tryd.underlying3 t1
  obtain ⟨c, rfl, -⟩ := cell_i64 Tryd.underlying3 t2
  exact ⟨a, b, c, by rw [arr3 (hl.trans hsz) e0 e1 e2]⟩
end Go.Proofs.YtmaedahleenlgaaDoor

/- The walk of TokenUnlike. No condition but the table of bit places. Printed by gen_unlike16.py. -/
set_option linter.unusedVariables false
set_option linter.unusedSimpArgs false
namespace Go.Proofs.YtmaedahleenlgaaDoor
open Go Go.RowKit Go.WideMaps

theorem mintT_wf {T : List Nd} (hw : WfT T) (key : Int) (x : Tok) : WfT (mintT T key x).1 := by
  unfold mintT
  split
  · exact hw
  · unfold tokT sealT
    exact wf_make (wf_text (wf_text hw _) _) _ _
theorem mintT_ext (T : List Nd) (key : Int) (x : Tok) : Ext 3 T (mintT T key x).1 := by
  unfold mintT
  split
  · exact (Ext.refl _).mono (by omega)
  · exact (textT_ext _ _).trans (sealT_ext _ _ _ _)
theorem X_below {w : World} {y : Tok} {A' : Option Addr} {c' : Nat} : ∀ V V', (RtAt V (w.heap.size + 1) y A' c' ∧ Rds w.heap.size V .u8 A' y.name.length c' y.name) → Below V.heap.size V V' → (RtAt V' (w.heap.size + 1) y A' c' ∧ Rds w.heap.size V' .u8 A' y.name.length c' y.name) :=
  fun V V' h hb => ⟨RtAt.b _ _ h.1 hb, h.2.below hb⟩
theorem X_frm {w : World} {B0 : Nat} {y : Tok} {A' : Option Addr} {c' : Nat} (hB : w.heap.size ≤ B0) : ∀ V V', (RtAt V (w.heap.size + 1) y A' c' ∧ Rds w.heap.size V .u8 A' y.name.length c' y.name) → Frm tabO B0 V V' → (RtAt V' (w.heap.size + 1) y A' c' ∧ Rds w.heap.size V' .u8 A' y.name.length c' y.name) :=
  fun V V' h hf => ⟨RtAt.f _ _ h.1 hf, h.2.frm (hf.weak hB).tab_sp⟩
theorem wf_sec1 : WfT [secN] := by
  have := wf_secret wfT_nil
  rwa [sec1] at this
theorem TokAt.same_tok {T : List Nd} (hw : WfT T) {h h' key tx tx' : Int} {x y : Tok} (hx : ¬ badTok x) (hy : ¬ badTok y) (bx : Byt x.name) (b_y : Byt y.name) (a : TokAt T h key (strOfNums (tokB x)) tx) (a' : TokAt T h' key (strOfNums (tokB y)) tx') : h = h' ↔ x = y := by
  rw [a.same hw a']
  constructor
  · intro e
    exact tokB_inj hx hy (strOfNums_inj (tokB_byt bx) (tokB_byt b_y) e)
  · rintro rfl; rfl

set_option maxHeartbeats 12800000 in
set_option maxRecDepth 100000 in
theorem unlike16_walk (w : World) (hz : Tz w) (x y : Tok) (A A' : Option Addr) (c c' : Nat) (hr : Rds w.heap.size w .u8 A x.name.length c x.name) (hr' : Rds w.heap.size w .u8 A' y.name.length c' y.name) (hb : Byt x.name) (hb' : Byt y.name) :
    Calls Tryd.prog 5 #[TokV x A c, TokV y A' c'] w (AwakePost w) := by
  have HZ := Lib.hid hz
  have HY := Lib.hid hb
  have HY' := Lib.hid hb'
  obtain ⟨W, hW⟩ : ∃ W, W = (w.alloc (.cells #[.bool x.later, .int .i64 x.addr, .int .i64 x.time, .slice A x.name.length c] 24)).alloc (.cells #[.bool y.later, .int .i64 y.addr, .int .i64 y.time, .slice A' y.name.length c'] 24) := ⟨_, rfl⟩
  have HBW : Hid (Below w.heap.size w W) := by rw [hW]; exact (below_new _).alloc (by simp) _
  have HX : Hid (RtAt W w.heap.size x A c) := by rw [hW]; exact (Below.heap_alloc _ _ _ (by simp)).trans (heap_alloc_new w _)
  have HQ : Hid (RtAt W (w.heap.size + 1) y A' c') := by
    have := heap_alloc_new (w.alloc (.cells #[.bool x.later, .int .i64 x.addr, .int .i64 x.time, .slice A x.name.length c] 24)) (.cells #[.bool y.later, .int .i64 y.addr, .int .i64 y.time, .slice A' y.name.length c'] 24)
    rw [World.size_alloc] at this
    rw [hW]; exact this
  have HR := Lib.hid (hr.below HBW.out)
  have HR' := Lib.hid (hr'.below HBW.out)
  have HSW : Hid (w.heap.size ≤ W.heap.size) := HBW.out.size
  clear hz hr hb hr' hb'
  simp only [TokV]
  go_enter Tryd.func5, Tryd.ntmps5
  by_cases k0 : 50 < x.name.length
  · go_wp2_with fail
    rw [← hW]
    go_ret
    exact ⟨rfl, HBW.out⟩
  by_cases k1 : 50 < y.name.length
  · go_wp2_with fail
    rw [← hW]
    go_ret
    exact ⟨rfl, HBW.out⟩
  go_wp2_with fail
  rw [← hW]
  clear hW
  refine (new_any W).mono ?_
  rintro e w1 ⟨tb, rfl, ht1, hb1⟩
  have HU1 : Hid (BunM w W.heap.size tb w.heap.size x A c (fun V => RtAt V (w.heap.size + 1) y A' c' ∧ Rds w.heap.size V .u8 A' y.name.length c' y.name) [] w1) := ⟨ht1, RtAt.b _ _ HX.out hb1, HR.out.below hb1, below_next HBW.out HBW.out.size hb1, RtAt.b _ _ HQ.out hb1, HR'.out.below hb1⟩
  have key := secret_any w1 ht1
  clear hb1 ht1 HX HQ HR HR' HBW
  go_wp2_with fail
  refine key.mono ?_
  clear key
  rintro e w2 p
  obtain ⟨rfl, ht, hf⟩ := p.intro sec1
  have HU2 := Lib.hid (HU1.out.frm (X_frm HSW.out) ht hf HSW.out)
  clear p ht hf HU1
  go_wp2_with fail
  have HUd := Lib.hid (HU2.out.below X_below (Below.refl _ _).drew)
  have S0 : Hid ((w2.drew.cell? ⟨w.heap.size, 0, none⟩ = some (.bool x.later) ∧ w2.drew.cell? ⟨w.heap.size, 1, none⟩ = some (.int .i64 x.addr) ∧ w2.drew.cell? ⟨w.heap.size, 2, none⟩ = some (.int .i64 x.time) ∧ w2.drew.cell? ⟨w.heap.size, 3, none⟩ = some (.slice A x.name.length c)) ∧ w2.drew.cell? ⟨w.heap.size + 1, 0, none⟩ = some (.bool y.later) ∧ w2.drew.cell? ⟨w.heap.size + 1, 1, none⟩ = some (.int .i64 y.addr) ∧ w2.drew.cell? ⟨w.heap.size + 1, 2, none⟩ = some (.int .i64 y.time) ∧ w2.drew.cell? ⟨w.heap.size + 1, 3, none⟩ = some (.slice A' y.name.length c')) := ⟨HUd.out.rt.cells, HUd.out.ex.1.cells⟩
  clear HU2
  go_region_held_law (fun w' => ((w'.cell? ⟨w.heap.size, 0, none⟩ = some (.bool x.later) ∧ w'.cell? ⟨w.heap.size, 1, none⟩ = some (.int .i64 x.addr) ∧ w'.cell? ⟨w.heap.size, 2, none⟩ = some (.int .i64 x.time) ∧ w'.cell? ⟨w.heap.size, 3, none⟩ = some (.slice A x.name.length c)) ∧ w'.cell? ⟨w.heap.size + 1, 0, none⟩ = some (.bool y.later) ∧ w'.cell? ⟨w.heap.size + 1, 1, none⟩ = some (.int .i64 y.addr) ∧ w'.cell? ⟨w.heap.size + 1, 2, none⟩ = some (.int .i64 y.time) ∧ w'.cell? ⟨w.heap.size + 1, 3, none⟩ = some (.slice A' y.name.length c'))) (first | with_reducible exact S0.out | with_reducible exact S3.out | with_reducible exact S4.out | with_reducible exact S5.out | with_reducible exact S6.out) ((first
    | (go_at_call 12
       have h0 := S0
       have key := of16_any x.later x.addr x.time x.name A _ c w2.drew HUd.out.nm (by omega)
       refine key.mono ?_
       clear key
       rintro e w3 ⟨A3, c3, rfl, ho, hb⟩
       have HU3 := Lib.hid (HUd.out.below X_below hb)
       have HO3 : Hid (Rds 0 w3 .u8 A3 x.name.length c3 x.name) := ho.rds
       have S3 : Hid ((w3.cell? ⟨w.heap.size, 0, none⟩ = some (.bool x.later) ∧ w3.cell? ⟨w.heap.size, 1, none⟩ = some (.int .i64 x.addr) ∧ w3.cell? ⟨w.heap.size, 2, none⟩ = some (.int .i64 x.time) ∧ w3.cell? ⟨w.heap.size, 3, none⟩ = some (.slice A x.name.length c)) ∧ w3.cell? ⟨w.heap.size + 1, 0, none⟩ = some (.bool y.later) ∧ w3.cell? ⟨w.heap.size + 1, 1, none⟩ = some (.int .i64 y.addr) ∧ w3.cell? ⟨w.heap.size + 1, 2, none⟩ = some (.int .i64 y.time) ∧ w3.cell? ⟨w.heap.size + 1, 3, none⟩ = some (.slice A' y.name.length c')) := ⟨HU3.out.rt.cells, HU3.out.ex.1.cells⟩
       clear ho hb HUd S0 h0)
    | (go_at_call 11
       have h0 := HO3
       have key := mint_any 1 x.later x.addr x.time x.name A3 _ c3 w3 HU3.out.tab ⟨by decide, by decide⟩ HO3.out (by omega) (HZ.out.later HU3.out.bl)
       refine key.mono ?_
       clear key
       rintro e w4 p
       obtain ⟨⟨T4, h4⟩, e4⟩ : ∃ r, mintT [secN] 1 x = r := ⟨_, rfl⟩
       obtain ⟨rfl, ht, hf⟩ := p.intro e4
       have E4 := Lib.hid e4
       have HU4 := Lib.hid (HU3.out.frm (X_frm HSW.out) ht hf HSW.out)
       have S4 : Hid ((w4.cell? ⟨w.heap.size, 0, none⟩ = some (.bool x.later) ∧ w4.cell? ⟨w.heap.size, 1, none⟩ = some (.int .i64 x.addr) ∧ w4.cell? ⟨w.heap.size, 2, none⟩ = some (.int .i64 x.time) ∧ w4.cell? ⟨w.heap.size, 3, none⟩ = some (.slice A x.name.length c)) ∧ w4.cell? ⟨w.heap.size + 1, 0, none⟩ = some (.bool y.later) ∧ w4.cell? ⟨w.heap.size + 1, 1, none⟩ = some (.int .i64 y.addr) ∧ w4.cell? ⟨w.heap.size + 1, 2, none⟩ = some (.int .i64 y.time) ∧ w4.cell? ⟨w.heap.size + 1, 3, none⟩ = some (.slice A' y.name.length c')) := ⟨HU4.out.rt.cells, HU4.out.ex.1.cells⟩
       clear p e4 ht hf HU3 HO3 S3 h0)
    | (go_at_call 12
       have h0 := S4
       have key := of16_any y.later y.addr y.time y.name A' _ c' w4 HU4.out.ex.2 (by omega)
       refine key.mono ?_
       clear key
       rintro e w5 ⟨A5, c5, rfl, ho, hb⟩
       have HU5 := Lib.hid (HU4.out.below X_below hb)
       have HO5 : Hid (Rds 0 w5 .u8 A5 y.name.length c5 y.name) := ho.rds
       have S5 : Hid ((w5.cell? ⟨w.heap.size, 0, none⟩ = some (.bool x.later) ∧ w5.cell? ⟨w.heap.size, 1, none⟩ = some (.int .i64 x.addr) ∧ w5.cell? ⟨w.heap.size, 2, none⟩ = some (.int .i64 x.time) ∧ w5.cell? ⟨w.heap.size, 3, none⟩ = some (.slice A x.name.length c)) ∧ w5.cell? ⟨w.heap.size + 1, 0, none⟩ = some (.bool y.later) ∧ w5.cell? ⟨w.heap.size + 1, 1, none⟩ = some (.int .i64 y.addr) ∧ w5.cell? ⟨w.heap.size + 1, 2, none⟩ = some (.int .i64 y.time) ∧ w5.cell? ⟨w.heap.size + 1, 3, none⟩ = some (.slice A' y.name.length c')) := ⟨HU5.out.rt.cells, HU5.out.ex.1.cells⟩
       clear ho hb HU4 S4 h0)
    | (go_at_call 11
       have h0 := HO5
       have key := mint_any 1 y.later y.addr y.time y.name A5 _ c5 w5 HU5.out.tab ⟨by decide, by decide⟩ HO5.out (by omega) (HZ.out.later HU5.out.bl)
       refine key.mono ?_
       clear key
       rintro e w6 p
       obtain ⟨⟨T6, h6⟩, e6⟩ : ∃ r, mintT T4 1 y = r := ⟨_, rfl⟩
       obtain ⟨rfl, ht, hf⟩ := p.intro e6
       have E6 := Lib.hid e6
       have HU6 := Lib.hid (HU5.out.frm (X_frm HSW.out) ht hf HSW.out)
       have S6 : Hid ((w6.cell? ⟨w.heap.size, 0, none⟩ = some (.bool x.later) ∧ w6.cell? ⟨w.heap.size, 1, none⟩ = some (.int .i64 x.addr) ∧ w6.cell? ⟨w.heap.size, 2, none⟩ = some (.int .i64 x.time) ∧ w6.cell? ⟨w.heap.size, 3, none⟩ = some (.slice A x.name.length c)) ∧ w6.cell? ⟨w.heap.size + 1, 0, none⟩ = some (.bool y.later) ∧ w6.cell? ⟨w.heap.size + 1, 1, none⟩ = some (.int .i64 y.addr) ∧ w6.cell? ⟨w.heap.size + 1, 2, none⟩ = some (.int .i64 y.time) ∧ w6.cell? ⟨w.heap.size + 1, 3, none⟩ = some (.slice A' y.name.length c')) := ⟨HU6.out.rt.cells, HU6.out.ex.1.cells⟩
       clear p e6 ht hf HU5 HO5 S5 h0)))
  all_goals
    rename_i hHeld
    clear hHeld
    by_cases ha : h4 = 0
    · have hab : (h4 == 0) = true := by simp [ha]
      have key := awake16_any w6 (HZ.out.later HU6.out.bl)
      clear ha S6
      go_wp2_with fail
      refine key.mono ?_
      clear key
      rintro e w7 ⟨rfl, hb⟩
      have HB7 := Lib.hid (below_next HU6.out.bl HU6.out.bl.size hb)
      clear hb
      go_wp2_with fail
      go_ret
      exact ⟨rfl, HB7.out⟩
    have hab : (h4 == 0) = false := by simp [ha]
    by_cases hc : h6 = 0
    · have hcb : (h6 == 0) = true := by simp [hc]
      have key := awake16_any w6 (HZ.out.later HU6.out.bl)
      clear hc ha S6
      go_wp2_with fail
      refine key.mono ?_
      clear key
      rintro e w7 ⟨rfl, hb⟩
      have HB7 := Lib.hid (below_next HU6.out.bl HU6.out.bl.size hb)
      clear hb
      go_wp2_with fail
      go_ret
      exact ⟨rfl, HB7.out⟩
    have hcb : (h6 == 0) = false := by simp [hc]
    have hbx : ¬ badTok x := fun k => by have := E4.out; rw [mintT_no k] at this; injection this with _ q; exact ha q.symm
    have hby : ¬ badTok y := fun k => by have := E6.out; rw [mintT_no k] at this; injection this with _ q; exact hc q.symm
    obtain ⟨tx, a1, x1⟩ := mint_at (T := [secN]) (key := 1) (x := x) wf_sec1 (by decide) sec_in1 hbx
    have n1 := x1.len
    have wf4 := mintT_wf wf_sec1 1 x
    have in4 := sec_in1.ext x1
    rw [E4.out] at a1 n1 wf4 in4
    obtain ⟨ty, a2, x2⟩ := mint_at (T := T4) (key := 1) (x := y) wf4 (by simp only [List.length_cons, List.length_nil] at n1; omega) in4 hby
    rw [E6.out] at a2 x2
    have HS : Hid (h4 = h6 ↔ x = y) := TokAt.same_tok HU6.out.tab.1 hbx hby HY.out HY'.out (a1.ext x2) a2
    have hdec : (h4 == h6) = decide (x = y) := by
      by_cases q : x = y
      · rw [decide_eq_true q, beq_iff_eq]; exact HS.out.2 q
      · rw [decide_eq_false q, beq_eq_false_iff_ne]; exact fun k => q (HS.out.1 k)
    obtain ⟨r, hr⟩ : ∃ r, r = decide (x = y) := ⟨_, rfl⟩
    rw [← hr] at hdec
    have HRr := Lib.hid hr
    clear ha hc hbx hby a1 x1 n1 wf4 in4 a2 x2 hr
    go_wp2_with fail
    have HUe := Lib.hid (HU6.out.below X_below (Below.refl _ _).drew)
    have Q0 : Hid ((w6.drew.cell? ⟨w.heap.size, 0, none⟩ = some (.bool x.later) ∧ w6.drew.cell? ⟨w.heap.size, 1, none⟩ = some (.int .i64 x.addr) ∧ w6.drew.cell? ⟨w.heap.size, 2, none⟩ = some (.int .i64 x.time) ∧ w6.drew.cell? ⟨w.heap.size, 3, none⟩ = some (.slice A x.name.length c)) ∧ w6.drew.cell? ⟨w.heap.size + 1, 0, none⟩ = some (.bool y.later) ∧ w6.drew.cell? ⟨w.heap.size + 1, 1, none⟩ = some (.int .i64 y.addr) ∧ w6.drew.cell? ⟨w.heap.size + 1, 2, none⟩ = some (.int .i64 y.time) ∧ w6.drew.cell? ⟨w.heap.size + 1, 3, none⟩ = some (.slice A' y.name.length c')) := ⟨HUe.out.rt.cells, HUe.out.ex.1.cells⟩
    clear HU6 S6
    go_region_held_law (fun w' => ((w'.cell? ⟨w.heap.size, 0, none⟩ = some (.bool x.later) ∧ w'.cell? ⟨w.heap.size, 1, none⟩ = some (.int .i64 x.addr) ∧ w'.cell? ⟨w.heap.size, 2, none⟩ = some (.int .i64 x.time) ∧ w'.cell? ⟨w.heap.size, 3, none⟩ = some (.slice A x.name.length c)) ∧ w'.cell? ⟨w.heap.size + 1, 0, none⟩ = some (.bool y.later) ∧ w'.cell? ⟨w.heap.size + 1, 1, none⟩ = some (.int .i64 y.addr) ∧ w'.cell? ⟨w.heap.size + 1, 2, none⟩ = some (.int .i64 y.time) ∧ w'.cell? ⟨w.heap.size + 1, 3, none⟩ = some (.slice A' y.name.length c'))) (first | with_reducible exact Q0.out | with_reducible exact Q1.out | with_reducible exact Q2.out | with_reducible exact Q3.out) ((first
      | (go_at_call 12
         have h0 := Q0
         have key := of16_any x.later x.addr x.time x.name A _ c w6.drew HUe.out.nm (by omega)
         refine key.mono ?_
         clear key
         rintro e w7 ⟨A7, c7, rfl, ho, hb⟩
         have HU7 := Lib.hid (HUe.out.below X_below hb)
         have HO7 : Hid (Rds 0 w7 .u8 A7 x.name.length c7 x.name) := ho.rds
         have Q1 : Hid ((w7.cell? ⟨w.heap.size, 0, none⟩ = some (.bool x.later) ∧ w7.cell? ⟨w.heap.size, 1, none⟩ = some (.int .i64 x.addr) ∧ w7.cell? ⟨w.heap.size, 2, none⟩ = some (.int .i64 x.time) ∧ w7.cell? ⟨w.heap.size, 3, none⟩ = some (.slice A x.name.length c)) ∧ w7.cell? ⟨w.heap.size + 1, 0, none⟩ = some (.bool y.later) ∧ w7.cell? ⟨w.heap.size + 1, 1, none⟩ = some (.int .i64 y.addr) ∧ w7.cell? ⟨w.heap.size + 1, 2, none⟩ = some (.int .i64 y.time) ∧ w7.cell? ⟨w.heap.size + 1, 3, none⟩ = some (.slice A' y.name.length c')) := ⟨HU7.out.rt.cells, HU7.out.ex.1.cells⟩
         clear ho hb HUe Q0 h0)
      | (go_at_call 20
         have h0 := HO7
         have key := told16_any x y A7 A' c7 c' w7 HO7.out HU7.out.ex.2 HY.out HY'.out
         rw [← HRr.out] at key
         refine key.mono ?_
         clear key
         rintro e w8 ⟨rfl, hb⟩
         have HU8 := Lib.hid (HU7.out.below X_below hb)
         have Q2 : Hid ((w8.cell? ⟨w.heap.size, 0, none⟩ = some (.bool x.later) ∧ w8.cell? ⟨w.heap.size, 1, none⟩ = some (.int .i64 x.addr) ∧ w8.cell? ⟨w.heap.size, 2, none⟩ = some (.int .i64 x.time) ∧ w8.cell? ⟨w.heap.size, 3, none⟩ = some (.slice A x.name.length c)) ∧ w8.cell? ⟨w.heap.size + 1, 0, none⟩ = some (.bool y.later) ∧ w8.cell? ⟨w.heap.size + 1, 1, none⟩ = some (.int .i64 y.addr) ∧ w8.cell? ⟨w.heap.size + 1, 2, none⟩ = some (.int .i64 y.time) ∧ w8.cell? ⟨w.heap.size + 1, 3, none⟩ = some (.slice A' y.name.length c')) := ⟨HU8.out.rt.cells, HU8.out.ex.1.cells⟩
         clear hb HU7 HO7 Q1 h0)
      | (go_at_call 14
         have h0 := HU8
         have key := awake16_any w8 (HZ.out.later HU8.out.bl)
         refine key.mono ?_
         clear key
         rintro e w9 ⟨rfl, hb⟩
         have HU9 := Lib.hid (HU8.out.below X_below hb)
         have Q3 : Hid ((w9.cell? ⟨w.heap.size, 0, none⟩ = some (.bool x.later) ∧ w9.cell? ⟨w.heap.size, 1, none⟩ = some (.int .i64 x.addr) ∧ w9.cell? ⟨w.heap.size, 2, none⟩ = some (.int .i64 x.time) ∧ w9.cell? ⟨w.heap.size, 3, none⟩ = some (.slice A x.name.length c)) ∧ w9.cell? ⟨w.heap.size + 1, 0, none⟩ = some (.bool y.later) ∧ w9.cell? ⟨w.heap.size + 1, 1, none⟩ = some (.int .i64 y.addr) ∧ w9.cell? ⟨w.heap.size + 1, 2, none⟩ = some (.int .i64 y.time) ∧ w9.cell? ⟨w.heap.size + 1, 3, none⟩ = some (.slice A' y.name.length c')) := ⟨HU9.out.rt.cells, HU9.out.ex.1.cells⟩
         clear hb HU8 Q2 h0)))
    all_goals
      rename_i hHeld
      clear hHeld
      go_wp2_with fail
      go_ret
      exact ⟨rfl, HU9.out.bl⟩
theorem unlike16_row {v0 v1 : Value} (w : World) (hz : Tz w) (h0 : TokArg w v0) (h1 : TokArg w v1) :
    Calls Tryd.prog 5 #[v0, v1] w fun e w' => e = .returned (.bool true) ∧ Below w.heap.size w w' := by
  obtain ⟨x, A, c, rfl, hr, hb⟩ := h0
  obtain ⟨y, A', c', rfl, hr', hb'⟩ := h1
  exact unlike16_walk w hz x y A A' c c' hr hr' hb hb'
end Go.Proofs.YtmaedahleenlgaaDoor
