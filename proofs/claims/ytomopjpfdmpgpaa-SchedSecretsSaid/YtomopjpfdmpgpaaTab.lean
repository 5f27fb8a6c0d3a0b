/- A table of terms in memory; what the map at its side answers. No condition. -/
import Derived.Test.YtomopjpfdmpgpaaTabKey
import Derived.Deep.AppendLies
import Derived.StillTailTactics
import Derived.Deep.RegionLaw
set_option linter.unusedVariables false
set_option linter.unusedSimpArgs false
namespace Go.Proofs.Ytomopjpfdmpgpaa
open Go Go.RowKit Go.WideMaps

theorem wf_of {x : Int} (h0 : -9223372036854775808 ≤ x) (h1 : x ≤ 9223372036854775807) : (Lit.int .i64 x).wf = true := by
  have := @wrap64_wf x
  rwa [show wrap64 x = x from by unfold wrap64; omega] at this
theorem GoodN.key {i : Nat} {T : List Nd} {n : Nd} (h : GoodN i T n) (hi : i ≤ 65536) : KeyOk n :=
  ⟨wf_of (by have := h.kind; omega) (by have := h.kind; omega), by have := h.text; simp only [maxLen]; omega, h.many, fun p hp => wf_of (by have := h.range p hp; omega) (by have := h.range p hp; omega)⟩

/-- The entries are those of the terms that are no secrets. -/
structure MapOk (T : List Nd) (es : List MapEntry) : Prop where
  sound : ∀ e ∈ es, ∃ (i : Nat) (n : Nd), T[i]? = some n ∧ n.kind ≠ 2 ∧ e.key = keyV n ∧ e.val = .int .i64 ((i : Int) + 1)
  full : ∀ (i : Nat) (n : Nd), T[i]? = some n → n.kind ≠ 2 → ∃ e ∈ es, e.key = keyV n
theorem mapOk_nil : MapOk [] [] := ⟨fun e he => by simp at he, fun i n h => by simp at h⟩
theorem MapOk.snoc {T : List Nd} {es : List MapEntry} (h : MapOk T es) (n : Nd) (c : Nat) : MapOk (T ++ [n]) (if n.kind = 2 then es else es ++ [⟨keyV n, .int .i64 ((T.length : Int) + 1), c⟩]) := by
  have old : ∀ (i : Nat) (m : Nd), T[i]? = some m → (T ++ [n])[i]? = some m := fun i m hm => by
    rw [List.getElem?_append_left (List.getElem?_eq_some_iff.1 hm).1, hm]
  split
  · rename_i hk
    refine ⟨fun e he => ?_, fun i m hm hk' => ?_⟩
    · obtain ⟨i, m, h1, h2⟩ := h.sound e he
      exact ⟨i, m, old i m h1, h2⟩
    · rw [List.getElem?_append] at hm
      split at hm
      · exact h.full i m hm hk'
      · have := List.mem_of_getElem? hm
        simp at this
        subst this
        exact absurd hk hk'
  · rename_i hk
    refine ⟨fun e he => ?_, fun i m hm hk' => ?_⟩
    · rcases List.mem_append.1 he with he | he
      · obtain ⟨i, m, h1, h2⟩ := h.sound e he
        exact ⟨i, m, old i m h1, h2⟩
      · simp at he
        subst he
        exact ⟨T.length, n, by simp, hk, rfl, rfl⟩
    · rw [List.getElem?_append] at hm
      split at hm
      · obtain ⟨e, he, hkey⟩ := h.full i m hm hk'
        exact ⟨e, List.mem_append_left _ he, hkey⟩
      · have := List.mem_of_getElem? hm
        simp at this
        subst this
        exact ⟨⟨keyV m, .int .i64 ((T.length : Int) + 1), c⟩, List.mem_append_right _ (by simp), rfl⟩

/-- What a look-up answers. -/
def foundT (T : List Nd) (n : Nd) : Int × Bool := match (if n.kind = 2 then none else lookT T n) with | some i => ((i : Int) + 1, true) | none => (0, false)
theorem zero_term (w : World) : (zeroValue 32).run Try.prog w = .ok (.int .i64 0) w := by kernel_rfl
theorem run_lookup_tab {w : World} {mb : Nat} {es : Array MapEntry} {clock : Nat} (hb : w.heap[mb]? = some (.map es clock)) {T : List Nd} (hw : WfT T) (hm : MapOk T es.toList) {n : Nd} (hn : KeyOk n) :
    (Instr.lookup 78 (.map (some mb)) (keyV n) true).run Try.prog w = .ok (.tuple #[.int .i64 (foundT T n).1, .bool (foundT T n).2]) w := by
  obtain ⟨l, hl⟩ := key_some hn
  have hkeys : ∀ e ∈ es.toList, ∃ l, keyOf Try.prog 112 e.key = some l := fun e he => by
    obtain ⟨i, m, h1, h2, h3, h4⟩ := hm.sound e he
    rw [h3]
    exact key_some ((hw.good i m h1).key (by have := hw.len; have := (List.getElem?_eq_some_iff.1 h1).1; omega))
  rcases key_law.find w hl es.toList hkeys with ⟨h1, h2⟩ | ⟨j, e0, h1, h2, h3⟩
  · have hf : foundT T n = (0, false) := by
      unfold foundT
      by_cases hk : n.kind = 2
      · rw [if_pos hk]
      · rw [if_neg hk]
        cases hlk : lookT T n with
        | none => rfl
        | some i =>
          obtain ⟨e, he, hkey⟩ := hm.full i n (lookT_some hlk) hk
          exact absurd hkey (h2 e he)
    rw [hf]
    simp [Instr.lookup, run_underlying Try.underlying78, MapKept.run_getObj_map hb, key_law.check w _ hl, h1, zero_term, Result.andThen]
  · obtain ⟨i, m, g1, g2, g3, g4⟩ := hm.sound e0 (List.mem_of_getElem? h2)
    have : m = n := keyV_inj (g3.symm.trans h3)
    subst this
    have hf : foundT T m = ((i : Int) + 1, true) := by
      unfold foundT
      rw [if_neg g2, lookT_of hw g1 g2]
    rw [hf]
    simp [Instr.lookup, run_underlying Try.underlying78, MapKept.run_getObj_map hb, key_law.check w _ hl, h1, g4, Result.andThen]

theorem run_update_tab {w : World} {mb : Nat} {es : Array MapEntry} {clock : Nat} (hb : w.heap[mb]? = some (.map es clock)) {T : List Nd} (hw : WfT T) (hm : MapOk T es.toList) {n : Nd} (hn : KeyOk n) (hno : ∀ i : Nat, T[i]? ≠ some n) (v : Value) :
    (Instr.mapUpdate 78 (.map (some mb)) (keyV n) v).run Try.prog w = .ok () (ChangeMaps.setBlock w mb (.map (es.push ⟨keyV n, v, clock⟩) (clock + 1))) := by
  obtain ⟨l, hl⟩ := key_some hn
  have hkeys : ∀ e ∈ es.toList, ∃ l, keyOf Try.prog 112 e.key = some l := fun e he => by
    obtain ⟨i, m, h1, h2, h3, h4⟩ := hm.sound e he
    rw [h3]
    exact key_some ((hw.good i m h1).key (by have := hw.len; have := (List.getElem?_eq_some_iff.1 h1).1; omega))
  rcases key_law.find w hl es.toList hkeys with ⟨h1, h2⟩ | ⟨j, e0, h1, h2, h3⟩
  · simp [Instr.mapUpdate, run_underlying Try.underlying78, MapKept.run_getObj_map hb, key_law.check w false hl, h1, MapKept.run_setObj_map _ hb, Result.andThen, ChangeMaps.setBlock]
  · obtain ⟨i, m, g1, g2, g3, g4⟩ := hm.sound e0 (List.mem_of_getElem? h2)
    have : m = n := keyV_inj (g3.symm.trans h3)
    subst this
    exact absurd g1 (hno i)

/-- The cells of the terms, one behind the other. -/
structure CellsOk (B : Nat) (w : World) (T : List Nd) (cs : List Value) : Prop where
  kind : ∀ (i : Nat) (n : Nd), T[i]? = some n → cs[i * 3]? = some (.int .i64 n.kind)
  text : ∀ (i : Nat) (n : Nd), T[i]? = some n → cs[i * 3 + 1]? = some (.string n.text)
  parts : ∀ (i : Nat) (n : Nd), T[i]? = some n → ∃ A c, cs[i * 3 + 2]? = some (.slice A n.parts.length c) ∧ Rds B w .i64 A n.parts.length c n.parts
theorem CellsOk.frm {B : Nat} {w w' : World} {T : List Nd} {cs : List Value} (h : CellsOk B w T cs) (hf : Frm spO B w w') : CellsOk B w' T cs :=
  ⟨h.kind, h.text, fun i n e => by obtain ⟨A, c, h1, h2⟩ := h.parts i n e; exact ⟨A, c, h1, h2.frm hf⟩⟩
theorem CellsOk.frm' {C : Obj → Bool} {B B' : Nat} {w w' : World} {T : List Nd} {cs : List Value} (h : CellsOk B w T cs) (hf : Frm C B' w w') (hB : B ≤ B') (hs : ∀ o, C o = true → spO o = true) : CellsOk B w' T cs :=
  h.frm ⟨hf.os, hf.tape, hf.output, hf.size, fun k o hk hh => hf.block k o hk (hh.imp (fun x => by omega) fun x => by cases hx : C o with | false => rfl | true => rw [hs o hx] at x; cases x)⟩
theorem CellsOk.snoc {B : Nat} {w : World} {T : List Nd} {cs : List Value} (h : CellsOk B w T cs) (hl : cs.length = T.length * 3) {n : Nd} {A : Option Addr} {c : Nat} (hr : Rds B w .i64 A n.parts.length c n.parts) :
    CellsOk B w (T ++ [n]) (cs ++ [.int .i64 n.kind, .string n.text, .slice A n.parts.length c]) := by
  have key : ∀ (i : Nat) (m : Nd), (T ++ [n])[i]? = some m → T[i]? = some m ∧ i < T.length ∨ i = T.length ∧ m = n := by
    intro i m hm
    rw [List.getElem?_append] at hm
    split at hm
    · exact .inl ⟨hm, by assumption⟩
    · right
      rcases Nat.lt_or_ge (i - T.length) 1 with h1 | h1
      · have h0 : i - T.length = 0 := by omega
        rw [h0] at hm
        simp at hm
        exact ⟨by omega, hm.symm⟩
      · rw [List.getElem?_eq_none (by simpa using h1)] at hm
        cases hm
  refine ⟨fun i m hm => ?_, fun i m hm => ?_, fun i m hm => ?_⟩
  · rcases key i m hm with ⟨h1, h2⟩ | ⟨rfl, rfl⟩
    · rw [List.getElem?_append_left (by omega)]; exact h.kind i m h1
    · rw [List.getElem?_append_right (by omega), hl]; simp
  · rcases key i m hm with ⟨h1, h2⟩ | ⟨rfl, rfl⟩
    · rw [List.getElem?_append_left (by omega)]; exact h.text i m h1
    · rw [List.getElem?_append_right (by omega), hl]; simp
  · rcases key i m hm with ⟨h1, h2⟩ | ⟨rfl, rfl⟩
    · obtain ⟨A', c', g1, g2⟩ := h.parts i m h1
      exact ⟨A', c', by rw [List.getElem?_append_left (by omega)]; exact g1, g2⟩
    · exact ⟨A, c, by rw [List.getElem?_append_right (by omega), hl]; simp, hr⟩

/-- The types of the blocks of a table. -/
def tabT : Obj → Bool
  | .cells _ t _ => t == 81 || t == 85
  | .map _ _ => true
  | _ => false
/-- A lone node with parts: some function's local variable, never a table's own row. -/
def lone5 (cs : Array Value) : Bool := match cs.toList with
  | [_, _, .slice _ n _] => n != 0
  | _ => false
/-- The blocks that a table turns. -/
def tabO : Obj → Bool
  | .cells cs t _ => t == 81 || (t == 85 && !lone5 cs)
  | .map _ _ => true
  | _ => false
theorem tabO_T : ∀ o, tabO o = true → tabT o = true := by
  intro o h
  unfold tabO at h
  unfold tabT
  split at h
  · simp only [Bool.or_eq_true, Bool.and_eq_true] at h ⊢
    exact h.imp id And.left
  · rfl
  · cases h
theorem tabT_sp : ∀ o, tabT o = true → spO o = true := by
  intro o h
  unfold tabT at h
  unfold spO
  split at h
  · rename_i c t f
    simp only [Bool.or_eq_true, beq_iff_eq] at h
    rcases h with rfl | rfl <;> rfl
  · rfl
  · cases h
theorem tabO_sp : ∀ o, tabO o = true → spO o = true := fun o h => tabT_sp o (tabO_T o h)
theorem Frm.mono {C C' : Obj → Bool} {B : Nat} {w w' : World} (h : Frm C B w w') (hc : ∀ o, C o = true → C' o = true) : Frm C' B w w' :=
  ⟨h.os, h.tape, h.output, h.size, fun k o hk hh => h.block k o hk (hh.imp id fun x => by cases hx : C o with | false => rfl | true => rw [hc o hx] at x; cases x)⟩
theorem Frm.tab_sp {B : Nat} {w w' : World} (h : Frm tabO B w w') : Frm spO B w w' := h.mono tabO_sp

/-- Block tb of w is a table that holds T; all of it lies from B on. -/
def IsTab (B : Nat) (w : World) (tb : Nat) (T : List Nd) : Prop :=
  WfT T ∧ B ≤ tb ∧ ∃ v mb es clock cs, w.heap[tb]? = some (.cells #[v, .map (some mb)] 81 (0, 0)) ∧ B ≤ mb ∧ w.heap[mb]? = some (.map es clock) ∧ MapOk T es.toList ∧
    w.ownsRow B 85 3 v T.length cs ∧ CellsOk B w T cs ∧ (T = [] → v.ownBlock = none)
theorem IsTab.below {B : Nat} {w w' : World} {tb : Nat} {T : List Nd} (h : IsTab B w tb T) (hf : Below w.heap.size w w') : IsTab B w' tb T := by
  obtain ⟨h1, h2, v, mb, es, clock, cs, g1, g2, g3, g4, g5, g6⟩ := h
  exact ⟨h1, h2, v, mb, es, clock, cs, (hf.block _ (lt_of_get g1)).trans g1, g2, (hf.block _ (lt_of_get g3)).trans g3, g4, g5.kept (grown_of_below hf none) (by cases v.ownBlock <;> simp), g6.1.frm (.of_below hf), g6.2⟩
theorem IsTab.frm {C : Obj → Bool} {B B' : Nat} {w w' : World} {tb : Nat} {T : List Nd} (h : IsTab B w tb T) (hf : Frm C B' w w') (hB : B ≤ B') (hc : ∀ o, tabT o = true → C o = false) (hs : ∀ o, C o = true → spO o = true) : IsTab B w' tb T := by
  obtain ⟨h1, h2, v, mb, es, clock, cs, g1, g2, g3, g4, g5, g6⟩ := h
  refine ⟨h1, h2, v, mb, es, clock, cs, hf.block _ _ g1 (.inr (hc _ (by simp [tabT]))), g2, hf.block _ _ g3 (.inr (hc _ rfl)), g4, ⟨g5.1, ?_⟩, g6.1.frm' hf hB hs, g6.2⟩
  rcases g5.2 with k | ⟨g, cap, cur, e, k1, k2, k3⟩
  · exact .inl k
  · exact .inr ⟨g, cap, cur, e, k1, hf.block _ _ k2 (.inr (hc _ (by simp [tabT]))), k3⟩
/-- A table's own row is one that it may turn. -/
theorem row_turns {B : Nat} {w : World} {T : List Nd} {v : Value} {cs : List Value} (hw : WfT T) (hown : w.ownsRow B 85 3 v T.length cs) (hcs : CellsOk B w T cs) (hnil : T = [] → v.ownBlock = none) {k : Nat} {o : Obj} (hk : w.heap[k]? = some o) (e : some k = v.ownBlock) : tabO o = true := by
  rcases hown.2 with ⟨h, _⟩ | ⟨g, cap, cur, h, _, hg, _, _, _, hcur⟩
  · rw [h] at e; simp [Value.ownBlock] at e
  · cases hT : T with
    | nil => rw [hnil hT] at e; cases e
    | cons n0 R =>
      rw [h] at e
      simp only [Value.ownBlock, Option.some.injEq] at e
      subst e
      rw [hg] at hk
      cases hk
      have h0 : T[0]? = some n0 := by rw [hT]; rfl
      obtain ⟨A0, c0, hk0, -⟩ := hcs.parts 0 n0 h0
      have hp0 : n0.parts.length = 0 := by
        cases hp : n0.parts with
        | nil => rfl
        | cons p P =>
          have := (hw.good 0 n0 h0).range p (by rw [hp]; simp)
          omega
      rw [hp0] at hk0
      have hl5 : lone5 cur = false := by
        unfold lone5
        split
        · rename_i a b A n c hl
          rw [← hcur, hl, hT, List.getElem?_take] at hk0
          simp only [List.length_cons] at hk0
          rw [if_pos (by omega)] at hk0
          simp at hk0
          simp [hk0.2.1]
        · rfl
      simp [tabO, hl5]
theorem IsTab.lt {B : Nat} {w : World} {tb : Nat} {T : List Nd} (h : IsTab B w tb T) : tb < w.heap.size := by
  obtain ⟨h1, h2, v, mb, es, clock, cs, g1, _⟩ := h
  exact lt_of_get g1
end Go.Proofs.Ytomopjpfdmpgpaa
