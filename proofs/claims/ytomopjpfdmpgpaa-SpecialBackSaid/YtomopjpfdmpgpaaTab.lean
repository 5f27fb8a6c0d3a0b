/- Own texts, one behind the other. Each bears its own remark. -/
import Derived.Test.YtomopjpfdmpgpaaLib
import Derived.Test.YtomopjpfdmpgpaaBase
import Derived.DeepKeys4
import Derived.WideKeyMaps
import Derived.Deep.AppendLies
import Derived.StillTailTactics
import Derived.Deep.RegionLaw
/- Plain: a table of terms (layer 2), as a list. No condition. -/
set_option linter.unusedVariables false
set_option linter.unusedSimpArgs false
namespace Go.Proofs.Ytomopjpfdmpgpaa
open Go Go.RowKit

/-- A term: its kind, its text, its parts. -/
structure Nd where
  kind : Int
  text : ByteArray
  parts : List Int
  deriving DecidableEq

/-- The number of a term that is there (from 0 on). -/
def lookT (T : List Nd) (n : Nd) : Option Nat := T.findIdx? (fun m => decide (m = n))
def addT (T : List Nd) (n : Nd) : List Nd × Int :=
  match (if n.kind = 2 then none else lookT T n) with
  | some i => (T, (i : Int) + 1)
  | none => if T.length = 65536 then (T, 0) else (T ++ [n], (T.length : Int) + 1)
def textT (T : List Nd) (b : ByteArray) : List Nd × Int := if b.size ≤ 2048 then addT T ⟨1, b, []⟩ else (T, 0)
def secretT (T : List Nd) : List Nd × Int := addT T ⟨2, ByteArray.empty, []⟩
/-- The term of a number. -/
def getT (T : List Nd) (h : Int) : Option Nd := if 1 ≤ h then T[(h - 1).toNat]? else none
def kindT (T : List Nd) (h : Int) : Int := match getT T h with | some n => n.kind | none => 0
def sort2 (a b : Int) : List Int := if b < a then [b, a] else [a, b]
/-- Have parts of these kinds a form? -/
def formedT (kind : Int) (l : List Int) : Bool :=
  if kind = 3 then decide (l.length ≤ 16)
  else if kind = 4 then decide (l.length = 1)
  else if kind = 5 then decide (l.length = 2)
  else if kind = 6 ∨ kind = 10 then decide (l.length = 3 ∧ nth l 1 = 1)
  else if kind = 7 then decide (l.length = 1 ∧ nth l 0 = 2)
  else if kind = 8 then decide (l.length = 2 ∧ nth l 0 = 2 ∧ nth l 1 = 7)
  else if kind = 9 then decide (l.length = 2 ∧ nth l 0 = 2)
  else false
/-- The parts as they stand in the table. -/
def ownT (T : List Nd) (kind : Int) (parts : List Int) : List Int :=
  if kind = 8 then (match getT T (nth parts 1) with | some p => sort2 (nth parts 0) (nth p.parts 0) | none => parts) else parts
def makeT (T : List Nd) (kind : Int) (parts : List Int) : List Nd × Int :=
  if (0 : Int) ∈ parts.map (kindT T) ∨ formedT kind (parts.map (kindT T)) = false then (T, 0) else addT T ⟨kind, ByteArray.empty, ownT T kind parts⟩

/-- What stands in a table. -/
structure GoodN (i : Nat) (T : List Nd) (n : Nd) : Prop where
  kind : 1 ≤ n.kind ∧ n.kind ≤ 10
  text : n.text.size ≤ 2048
  many : n.parts.length ≤ 16
  range : ∀ p ∈ n.parts, 1 ≤ p ∧ p ≤ i
  k1 : n.kind = 1 → n.parts = []
  k2 : n.kind = 2 → n.parts = [] ∧ n.text = ByteArray.empty
  k3 : n.kind ≠ 1 → n.text = ByteArray.empty
  k4 : n.kind = 4 → n.parts.length = 1
  k5 : n.kind = 5 → n.parts.length = 2
  k6 : n.kind = 6 ∨ n.kind = 10 → n.parts.length = 3 ∧ kindT T (nth n.parts 1) = 1
  k7 : n.kind = 7 → n.parts.length = 1 ∧ kindT T (nth n.parts 0) = 2
  k8 : n.kind = 8 → n.parts.length = 2 ∧ kindT T (nth n.parts 0) = 2 ∧ kindT T (nth n.parts 1) = 2 ∧ nth n.parts 0 ≤ nth n.parts 1
  k9 : n.kind = 9 → n.parts.length = 2 ∧ kindT T (nth n.parts 0) = 2
structure WfT (T : List Nd) : Prop where
  len : T.length ≤ 65536
  good : ∀ (i : Nat) (n : Nd), T[i]? = some n → GoodN i T n
  uniq : ∀ (i j : Nat) (n : Nd), T[i]? = some n → T[j]? = some n → n.kind ≠ 2 → i = j

theorem lookT_some {T : List Nd} {n : Nd} {i : Nat} (h : lookT T n = some i) : T[i]? = some n := by
  unfold lookT at h
  have := List.findIdx?_eq_some_iff_getElem.1 h
  obtain ⟨hl, hp, _⟩ := this
  simp at hp
  rw [List.getElem?_eq_getElem hl, hp]
theorem lookT_none {T : List Nd} {n : Nd} (h : lookT T n = none) : ∀ i : Nat, T[i]? ≠ some n := by
  intro i hi
  unfold lookT at h
  have := List.findIdx?_eq_none_iff.1 h n (List.mem_of_getElem? hi)
  simp at this
theorem lookT_of {T : List Nd} (hw : WfT T) {n : Nd} {i : Nat} (h : T[i]? = some n) (hk : n.kind ≠ 2) : lookT T n = some i := by
  cases hl : lookT T n with
  | none => exact absurd h (lookT_none hl i)
  | some j => rw [hw.uniq j i n (lookT_some hl) h hk]

theorem getT_nat {T : List Nd} (i : Nat) : getT T ((i : Int) + 1) = T[i]? := by
  unfold getT
  rw [if_pos (by omega)]
  congr 1
  omega
theorem getT_range {T : List Nd} {h : Int} {n : Nd} (e : getT T h = some n) : 1 ≤ h ∧ h ≤ T.length := by
  unfold getT at e
  split at e
  · have := (List.getElem?_eq_some_iff.1 e).1
    omega
  · cases e
theorem getT_some {T : List Nd} {h : Int} (h0 : 1 ≤ h) (h1 : h ≤ T.length) : ∃ n, getT T h = some n := by
  unfold getT
  rw [if_pos h0]
  exact ⟨_, List.getElem?_eq_getElem (by omega)⟩
theorem getT_none {T : List Nd} {h : Int} (k : ¬(1 ≤ h ∧ h ≤ T.length)) : getT T h = none := by
  unfold getT
  split
  · exact List.getElem?_eq_none (by omega)
  · rfl
theorem getT_mono {T T' : List Nd} {h : Int} {n : Nd} (e : getT T h = some n) : getT (T ++ T') h = some n := by
  have hr := getT_range e
  unfold getT at e ⊢
  rw [if_pos hr.1] at e ⊢
  rw [List.getElem?_append_left (by omega), e]
theorem kindT_mono {T T' : List Nd} {h : Int} {k : Int} (e : kindT T h = k) (hk : k ≠ 0) : kindT (T ++ T') h = k := by
  unfold kindT at e ⊢
  cases hg : getT T h with
  | none => rw [hg] at e; exact absurd e.symm hk
  | some n => rw [hg] at e; rw [getT_mono hg]; exact e
theorem kindT_range {T : List Nd} {h : Int} (e : kindT T h ≠ 0) : 1 ≤ h ∧ h ≤ T.length := by
  unfold kindT at e
  cases hg : getT T h with
  | none => rw [hg] at e; exact absurd rfl e
  | some n => exact getT_range hg
theorem WfT.kind {T : List Nd} (hw : WfT T) {h : Int} (h0 : 1 ≤ h) (h1 : h ≤ T.length) : 1 ≤ kindT T h ∧ kindT T h ≤ 10 := by
  obtain ⟨n, e⟩ := getT_some h0 h1
  unfold kindT
  rw [e]
  unfold getT at e
  rw [if_pos h0] at e
  exact (hw.good _ _ e).kind
theorem WfT.get {T : List Nd} (hw : WfT T) {h : Int} {n : Nd} (e : getT T h = some n) : GoodN (h - 1).toNat T n := by
  have hr := getT_range e
  unfold getT at e
  rw [if_pos hr.1] at e
  exact hw.good _ _ e
theorem kindT_get {T : List Nd} {h : Int} {n : Nd} (e : getT T h = some n) : kindT T h = n.kind := by unfold kindT; rw [e]

theorem GoodN.mono {i : Nat} {T T' : List Nd} {n : Nd} (h : GoodN i T n) : GoodN i (T ++ T') n :=
  ⟨h.kind, h.text, h.many, h.range, h.k1, h.k2, h.k3, h.k4, h.k5, fun k => ⟨(h.k6 k).1, kindT_mono (h.k6 k).2 (by decide)⟩, fun k => ⟨(h.k7 k).1, kindT_mono (h.k7 k).2 (by decide)⟩,
    fun k => ⟨(h.k8 k).1, kindT_mono (h.k8 k).2.1 (by decide), kindT_mono (h.k8 k).2.2.1 (by decide), (h.k8 k).2.2.2⟩, fun k => ⟨(h.k9 k).1, kindT_mono (h.k9 k).2 (by decide)⟩⟩

theorem wfT_nil : WfT [] := ⟨by simp, fun i n h => by simp at h, fun i j n h => by simp at h⟩
theorem wfT_snoc {T : List Nd} (hw : WfT T) {n : Nd} (hn : GoodN T.length T n) (hl : T.length < 65536) (hu : n.kind ≠ 2 → ∀ i : Nat, T[i]? ≠ some n) : WfT (T ++ [n]) := by
  refine ⟨by simp; omega, fun i m h => ?_, fun i j m h h' hk => ?_⟩
  · rw [List.getElem?_append] at h
    split at h
    · exact (hw.good i m h).mono
    · have : i = T.length := by
        rcases Nat.lt_or_ge (i - T.length) 1 with h1 | h1
        · omega
        · rw [List.getElem?_eq_none (by simpa using h1)] at h; cases h
      subst this
      simp at h
      subst h
      exact hn.mono
  · rw [List.getElem?_append] at h h'
    split at h <;> split at h'
    · exact hw.uniq i j m h h' hk
    · have : m = n := by
        rcases Nat.lt_or_ge (j - T.length) 1 with h1 | h1
        · have : j - T.length = 0 := by omega
          rw [this] at h'; simpa using h'.symm
        · rw [List.getElem?_eq_none (by simpa using h1)] at h'; cases h'
      subst this
      exact absurd h (hu hk i)
    · have : m = n := by
        rcases Nat.lt_or_ge (i - T.length) 1 with h1 | h1
        · have : i - T.length = 0 := by omega
          rw [this] at h; simpa using h.symm
        · rw [List.getElem?_eq_none (by simpa using h1)] at h; cases h
      subst this
      exact absurd h' (hu hk j)
    · rcases Nat.lt_or_ge (i - T.length) 1 with h1 | h1
      · rcases Nat.lt_or_ge (j - T.length) 1 with h2 | h2
        · omega
        · rw [List.getElem?_eq_none (by simpa using h2)] at h'; cases h'
      · rw [List.getElem?_eq_none (by simpa using h1)] at h; cases h
theorem wfT_add {T : List Nd} (hw : WfT T) {n : Nd} (hn : GoodN T.length T n) : WfT (addT T n).1 := by
  unfold addT
  split
  · exact hw
  · rename_i he
    split
    · exact hw
    · rename_i hl
      refine wfT_snoc hw hn (by have := hw.len; omega) fun hk => ?_
      rw [if_neg hk] at he
      exact lookT_none he
end Go.Proofs.Ytomopjpfdmpgpaa

/- The map of a table: its keys, what is found, what is put. No condition. -/
set_option linter.unusedVariables false
set_option linter.unusedSimpArgs false
namespace Go.Proofs.Ytomopjpfdmpgpaa
open Go Go.RowKit Go.WideMaps

theorem key_laid : laidOutB Try.prog = true := by kernel_rfl
theorem key_law : KeyLaw Try.prog 112 := deep_law_laid key_laid (m := 4) (by omega) (of_decide_eq_true (by kernel_rfl)) (by kernel_rfl) (by rw [Try.underlying112])
theorem key_deep : Try.prog.keyType 112 = true := by kernel_rfl
theorem cells_key : Try.prog.cellsOf 112 = 19 := by kernel_rfl
theorem cells_parts : Try.prog.cellsOf 110 = 16 := by kernel_rfl
theorem cells_int : Try.prog.cellsOf 3 = 1 := by kernel_rfl
theorem cells_string : Try.prog.cellsOf 9 = 1 := by kernel_rfl
theorem cells_term : Try.prog.cellsOf 32 = 1 := by kernel_rfl
theorem types_pos : ∃ m, Try.prog.types.size + 1 = m + 3 := ⟨Try.prog.types.size - 2, by have : 2 ≤ Try.prog.types.size := of_decide_eq_true (by kernel_rfl); omega⟩

theorem wf_small' : ∀ n, n < 17 → (Lit.int .i64 ((n : Nat) : Int)).wf = true := by decide
theorem wf_small (n : Nat) (h : n ≤ 16) : (Lit.int .i64 (n : Int)).wf = true := wf_small' n (by omega)
/-- A term's parts, filled up to sixteen. -/
def padP (ps : List Int) : List Int := ps ++ List.replicate (16 - ps.length) 0
theorem padP_length {ps : List Int} (h : ps.length ≤ 16) : (padP ps).length = 16 := by simp [padP]; omega
theorem padP_inj {ps qs : List Int} (hl : ps.length = qs.length) (h : padP ps = padP qs) : ps = qs := by
  unfold padP at h
  exact (List.append_inj h hl).1
/-- A term's key. -/
def keyV (n : Nd) : Value := .agg ((Value.int .i64 n.kind :: .string n.text :: .int .i64 n.parts.length :: (padP n.parts).map (Value.int .i64)).toArray)
theorem keyV_inj {n m : Nd} (h : keyV n = keyV m) : n = m := by
  unfold keyV at h
  injection h with h
  have h := congrArg Array.toList h
  simp only [List.cons.injEq, Value.int.injEq, true_and, Value.string.injEq] at h
  obtain ⟨h1, h2, h3, h4⟩ := h
  have h5 : padP n.parts = padP m.parts := by
    have h7 := congrArg (List.map intOf) h4
    simpa [List.map_map, Function.comp_def, intOf] using h7
  have h6 := padP_inj (by omega) h5
  cases n; cases m; simp_all

theorem mapM_isSome {α β : Type} (f : α → Option β) : ∀ l : List α, (∀ x ∈ l, (f x).isSome = true) → (l.mapM f).isSome = true
  | [], _ => by simp
  | a :: l, h => by
    obtain ⟨b, hb⟩ := Option.isSome_iff_exists.1 (h a (by simp))
    obtain ⟨c, hc⟩ := Option.isSome_iff_exists.1 (mapM_isSome f l fun x hx => h x (by simp [hx]))
    simp [List.mapM_cons, hb, hc]
theorem keyLits_int (d : Nat) {n : Int} (h : (Lit.int .i64 n).wf = true) : (Try.prog.keyLits (d + 1) 3 [.int .i64 n]).isSome = true := by
  simp [Program.keyLits, Try.underlying3, h]
theorem keyLits_term (d : Nat) {n : Int} (h : (Lit.int .i64 n).wf = true) : (Try.prog.keyLits (d + 1) 32 [.int .i64 n]).isSome = true := by
  simp [Program.keyLits, Try.underlying32, h]
theorem keyLits_string (d : Nat) {s : ByteArray} (h : s.size ≤ maxLen) : (Try.prog.keyLits (d + 1) 9 [.string s]).isSome = true := by
  simp [Program.keyLits, Try.underlying9, h]
theorem keyLits_parts (d : Nat) {ps : List Int} (hl : ps.length = 16) (h : ∀ p ∈ ps, (Lit.int .i64 p).wf = true) : (Try.prog.keyLits (d + 2) 110 (ps.map (Value.int .i64))).isSome = true := by
  unfold Program.keyLits
  simp only [Try.underlying110, cells_parts, List.length_map, hl, if_true, Option.isSome_map, cells_term, Nat.mul_one]
  refine mapM_isSome _ _ fun i hi => ?_
  have hi' : i < 16 := by simpa using hi
  have e : ((ps.map (Value.int .i64)).drop i).take 1 = [.int .i64 (nth ps i)] := by
    rw [List.take_one, List.head?_drop, List.getElem?_map, nth_lt (by omega)]; rfl
  rw [e]
  exact keyLits_term d (h _ (nth_mem (by omega)))

structure KeyOk (n : Nd) : Prop where
  kind : (Lit.int .i64 n.kind).wf = true
  text : n.text.size ≤ maxLen
  many : n.parts.length ≤ 16
  parts : ∀ p ∈ n.parts, (Lit.int .i64 p).wf = true
theorem key_some {n : Nd} (h : KeyOk n) : ∃ l, keyOf Try.prog 112 (keyV n) = some l := by
  apply Option.isSome_iff_exists.1
  have hp := padP_length h.many
  have hw : ∀ p ∈ padP n.parts, (Lit.int .i64 p).wf = true := by
    intro p hp
    rcases List.mem_append.1 hp with hp | hp
    · exact h.parts p hp
    · rw [List.eq_of_mem_replicate hp]; decide
  have hlen : (keyV n).cells.toList.length = 19 := by simp [keyV, Value.cells, hp]
  have hform : (keyV n).formed Try.prog 112 = true := by
    simp [keyV, Value.formed, Try.underlying112, cells_key, hp]
  obtain ⟨m, hm⟩ := types_pos
  unfold keyOf
  rw [Try.underlying112]
  simp only [key_deep, hform, Bool.and_self, if_true, Option.isSome_map]
  rw [hm]
  unfold Program.keyLits
  rw [Try.underlying112]
  simp only [hlen, cells_key]
  simp only [List.all_toArray, List.all_cons, List.all_nil, Bool.and_true]
  rw [if_pos ⟨by trivial, by decide⟩]
  simp only [Option.isSome_map]
  have hmany : (Lit.int .i64 (n.parts.length : Int)).wf = true := by
    have := h.many
    exact wf_small _ this
  refine mapM_isSome _ _ fun f hf => ?_
  simp only [List.mem_cons, List.not_mem_nil, or_false] at hf
  rcases hf with rfl | rfl | rfl | rfl
  · simpa [keyV, Value.cells, cells_int] using keyLits_int (m + 1) h.kind
  · simpa [keyV, Value.cells, cells_string] using keyLits_string (m + 1) h.text
  · simpa [keyV, Value.cells, cells_int] using keyLits_int (m + 1) hmany
  · have := keyLits_parts m hp hw
    simpa [keyV, Value.cells, cells_parts, List.take_of_length_le, hp] using this
end Go.Proofs.Ytomopjpfdmpgpaa

/- A table of terms in memory; what the map at its side answers. No condition. -/
set_option linter.unusedVariables false
set_option linter.unusedSimpArgs false
namespace Go.Proofs.Ytomopjpfdmpgpaa
open Go Go.RowKit Go.WideMaps

theorem wf_of {x : Int} (h0 : -9223372036854775808 ≤ x) (h1 : x ≤ 9223372036854775807) : (Lit.int .i64 x).wf = true := by
  have := @wrap64_wf x
  rwa [show wrap64 x = x from by unfold wrap64; omega] at this
theorem GoodN.key {i : Nat} {T : List Nd} {n : Nd} (h : GoodN i T n) (hi : i ≤ 65536) : KeyOk n :=
  ⟨wf_of (by have := h.kind; omega) (by have := h.kind; omega), by have := h.text; simp only [maxLen]; omega, h.many, fun p hp => wf_of (by have := h.range p hp; omega) (by have := h.range p hp; omega)⟩

/-- The entries are those of the terms that are no secrets. -/
structure MapOk (T : List Nd) (es : List MapEntry) : Prop where
  sound : ∀ e ∈ es, ∃ (i : Nat) (n : Nd), T[i]? = some n ∧ n.kind ≠ 2 ∧ e.key = keyV n ∧ e.val = .int .i64 ((i : Int) + 1)
  full : ∀ (i : Nat) (n : Nd), T[i]? = some n → n.kind ≠ 2 → ∃ e ∈ es, e.key = keyV n
theorem mapOk_nil : MapOk [] [] := ⟨fun e he => by simp at he, fun i n h => by simp at h⟩
theorem MapOk.snoc {T : List Nd} {es : List MapEntry} (h : MapOk T es) (n : Nd) (c : Nat) : MapOk (T ++ [n]) (if n.kind = 2 then es else es ++ [⟨keyV n, .int .i64 ((T.length : Int) + 1), c⟩]) := by
  have old : ∀ (i : Nat) (m : Nd), T[i]? = some m → (T ++ [n])[i]? = some m := fun i m hm => by
    rw [List.getElem?_append_left (List.getElem?_eq_some_iff.1 hm).1, hm]
  split
  · rename_i hk
    refine ⟨fun e he => ?_, fun i m hm hk' => ?_⟩
    · obtain ⟨i, m, h1, h2⟩ := h.sound e he
      exact ⟨i, m, old i m h1, h2⟩
    · rw [List.getElem?_append] at hm
      split at hm
      · exact h.full i m hm hk'
      · have := List.mem_of_getElem? hm
        simp at this
        subst this
        exact absurd hk hk'
  · rename_i hk
    refine ⟨fun e he => ?_, fun i m hm hk' => ?_⟩
    · rcases List.mem_append.1 he with he | he
      · obtain ⟨i, m, h1, h2⟩ := h.sound e he
        exact ⟨i, m, old i m h1, h2⟩
      · simp at he
        subst he
        exact ⟨T.length, n, by simp, hk, rfl, rfl⟩
    · rw [List.getElem?_append] at hm
      split at hm
      · obtain ⟨e, he, hkey⟩ := h.full i m hm hk'
        exact ⟨e, List.mem_append_left _ he, hkey⟩
      · have := List.mem_of_getElem? hm
        simp at this
        subst this
        exact ⟨⟨keyV m, .int .i64 ((T.length : Int) + 1), c⟩, List.mem_append_right _ (by simp), rfl⟩

/-- What a look-up answers. -/
def foundT (T : List Nd) (n : Nd) : Int × Bool := match (if n.kind = 2 then none else lookT T n) with | some i => ((i : Int) + 1, true) | none => (0, false)
theorem zero_term (w : World) : (zeroValue 32).run Try.prog w = .ok (.int .i64 0) w := by kernel_rfl
theorem run_lookup_tab {w : World} {mb : Nat} {es : Array MapEntry} {clock : Nat} (hb : w.heap[mb]? = some (.map es clock)) {T : List Nd} (hw : WfT T) (hm : MapOk T es.toList) {n : Nd} (hn : KeyOk n) :
    (Instr.lookup 78 (.map (some mb)) (keyV n) true).run Try.prog w = .ok (.tuple #[.int .i64 (foundT T n).1, .bool (foundT T n).2]) w := by
  obtain ⟨l, hl⟩ := key_some hn
  have hkeys : ∀ e ∈ es.toList, ∃ l, keyOf Try.prog 112 e.key = some l := fun e he => by
    obtain ⟨i, m, h1, h2, h3, h4⟩ := hm.sound e he
    rw [h3]
    exact key_some ((hw.good i m h1).key (by have := hw.len; have := (List.getElem?_eq_some_iff.1 h1).1; omega))
  rcases key_law.find w hl es.toList hkeys with ⟨h1, h2⟩ | ⟨j, e0, h1, h2, h3⟩
  · have hf : foundT T n = (0, false) := by
      unfold foundT
      by_cases hk : n.kind = 2
      · rw [if_pos hk]
      · rw [if_neg hk]
        cases hlk : lookT T n with
        | none => rfl
        | some i =>
          obtain ⟨e, he, hkey⟩ := hm.full i n (lookT_some hlk) hk
          exact absurd hkey (h2 e he)
    rw [hf]
    simp [Instr.lookup, run_underlying Try.underlying78, MapKept.run_getObj_map hb, key_law.check w _ hl, h1, zero_term, Result.andThen]
  · obtain ⟨i, m, g1, g2, g3, g4⟩ := hm.sound e0 (List.mem_of_getElem? h2)
    have : m = n := keyV_inj (g3.symm.trans h3)
    subst this
    have hf : foundT T m = ((i : Int) + 1, true) := by
      unfold foundT
      rw [if_neg g2, lookT_of hw g1 g2]
    rw [hf]
    simp [Instr.lookup, run_underlying Try.underlying78, MapKept.run_getObj_map hb, key_law.check w _ hl, h1, g4, Result.andThen]

theorem run_update_tab {w : World} {mb : Nat} {es : Array MapEntry} {clock : Nat} (hb : w.heap[mb]? = some (.map es clock)) {T : List Nd} (hw : WfT T) (hm : MapOk T es.toList) {n : Nd} (hn : KeyOk n) (hno : ∀ i : Nat, T[i]? ≠ some n) (v : Value) :
    (Instr.mapUpdate 78 (.map (some mb)) (keyV n) v).run Try.prog w = .ok () (ChangeMaps.setBlock w mb (.map (es.push ⟨keyV n, v, clock⟩) (clock + 1))) := by
  obtain ⟨l, hl⟩ := key_some hn
  have hkeys : ∀ e ∈ es.toList, ∃ l, keyOf Try.prog 112 e.key = some l := fun e he => by
    obtain ⟨i, m, h1, h2, h3, h4⟩ := hm.sound e he
    rw [h3]
    exact key_some ((hw.good i m h1).key (by have := hw.len; have := (List.getElem?_eq_some_iff.1 h1).1; omega))
  rcases key_law.find w hl es.toList hkeys with ⟨h1, h2⟩ | ⟨j, e0, h1, h2, h3⟩
  · simp [Instr.mapUpdate, run_underlying Try.underlying78, MapKept.run_getObj_map hb, key_law.check w false hl, h1, MapKept.run_setObj_map _ hb, Result.andThen, ChangeMaps.setBlock]
  · obtain ⟨i, m, g1, g2, g3, g4⟩ := hm.sound e0 (List.mem_of_getElem? h2)
    have : m = n := keyV_inj (g3.symm.trans h3)
    subst this
    exact absurd g1 (hno i)

/-- The cells of the terms, one behind the other. -/
structure CellsOk (B : Nat) (w : World) (T : List Nd) (cs : List Value) : Prop where
  kind : ∀ (i : Nat) (n : Nd), T[i]? = some n → cs[i * 3]? = some (.int .i64 n.kind)
  text : ∀ (i : Nat) (n : Nd), T[i]? = some n → cs[i * 3 + 1]? = some (.string n.text)
  parts : ∀ (i : Nat) (n : Nd), T[i]? = some n → ∃ A c, cs[i * 3 + 2]? = some (.slice A n.parts.length c) ∧ Rds B w .i64 A n.parts.length c n.parts
theorem CellsOk.frm {B : Nat} {w w' : World} {T : List Nd} {cs : List Value} (h : CellsOk B w T cs) (hf : Frm spO B w w') : CellsOk B w' T cs :=
  ⟨h.kind, h.text, fun i n e => by obtain ⟨A, c, h1, h2⟩ := h.parts i n e; exact ⟨A, c, h1, h2.frm hf⟩⟩
theorem CellsOk.frm' {C : Obj → Bool} {B B' : Nat} {w w' : World} {T : List Nd} {cs : List Value} (h : CellsOk B w T cs) (hf : Frm C B' w w') (hB : B ≤ B') (hs : ∀ o, C o = true → spO o = true) : CellsOk B w' T cs :=
  h.frm ⟨hf.os, hf.tape, hf.output, hf.size, fun k o hk hh => hf.block k o hk (hh.imp (fun x => by omega) fun x => by cases hx : C o with | false => rfl | true => rw [hs o hx] at x; cases x)⟩
theorem CellsOk.snoc {B : Nat} {w : World} {T : List Nd} {cs : List Value} (h : CellsOk B w T cs) (hl : cs.length = T.length * 3) {n : Nd} {A : Option Addr} {c : Nat} (hr : Rds B w .i64 A n.parts.length c n.parts) :
    CellsOk B w (T ++ [n]) (cs ++ [.int .i64 n.kind, .string n.text, .slice A n.parts.length c]) := by
  have key : ∀ (i : Nat) (m : Nd), (T ++ [n])[i]? = some m → T[i]? = some m ∧ i < T.length ∨ i = T.length ∧ m = n := by
    intro i m hm
    rw [List.getElem?_append] at hm
    split at hm
    · exact .inl ⟨hm, by assumption⟩
    · right
      rcases Nat.lt_or_ge (i - T.length) 1 with h1 | h1
      · have h0 : i - T.length = 0 := by omega
        rw [h0] at hm
        simp at hm
        exact ⟨by omega, hm.symm⟩
      · rw [List.getElem?_eq_none (by simpa using h1)] at hm
        cases hm
  refine ⟨fun i m hm => ?_, fun i m hm => ?_, fun i m hm => ?_⟩
  · rcases key i m hm with ⟨h1, h2⟩ | ⟨rfl, rfl⟩
    · rw [List.getElem?_append_left (by omega)]; exact h.kind i m h1
    · rw [List.getElem?_append_right (by omega), hl]; simp
  · rcases key i m hm with ⟨h1, h2⟩ | ⟨rfl, rfl⟩
    · rw [List.getElem?_append_left (by omega)]; exact h.text i m h1
    · rw [List.getElem?_append_right (by omega), hl]; simp
  · rcases key i m hm with ⟨h1, h2⟩ | ⟨rfl, rfl⟩
    · obtain ⟨A', c', g1, g2⟩ := h.parts i m h1
      exact ⟨A', c', by rw [List.getElem?_append_left (by omega)]; exact g1, g2⟩
    · exact ⟨A, c, by rw [List.getElem?_append_right (by omega), hl]; simp, hr⟩

/-- The types of the blocks of a table. -/
def tabT : Obj → Bool
  | .cells _ t _ => t == 81 || t == 85
  | .map _ _ => true
  | _ => false
/-- A lone node with parts: some function's local variable, never a table's own row. -/
def lone5 (cs : Array Value) : Bool := match cs.toList with
  | [_, _, .slice _ n _] => n != 0
  | _ => false
/-- The blocks that a table turns. -/
def tabO : Obj → Bool
  | .cells cs t _ => t == 81 || (t == 85 && !lone5 cs)
  | .map _ _ => true
  | _ => false
theorem tabO_T : ∀ o, tabO o = true → tabT o = true := by
  intro o h
  unfold tabO at h
  unfold tabT
  split at h
  · simp only [Bool.or_eq_true, Bool.and_eq_true] at h ⊢
    exact h.imp id And.left
  · rfl
  · cases h
theorem tabT_sp : ∀ o, tabT o = true → spO o = true := by
  intro o h
  unfold tabT at h
  unfold spO
  split at h
  · rename_i c t f
    simp only [Bool.or_eq_true, beq_iff_eq] at h
    rcases h with rfl | rfl <;> rfl
  · rfl
  · cases h
theorem tabO_sp : ∀ o, tabO o = true → spO o = true := fun o h => tabT_sp o (tabO_T o h)
theorem Frm.mono {C C' : Obj → Bool} {B : Nat} {w w' : World} (h : Frm C B w w') (hc : ∀ o, C o = true → C' o = true) : Frm C' B w w' :=
  ⟨h.os, h.tape, h.output, h.size, fun k o hk hh => h.block k o hk (hh.imp id fun x => by cases hx : C o with | false => rfl | true => rw [hc o hx] at x; cases x)⟩
theorem Frm.tab_sp {B : Nat} {w w' : World} (h : Frm tabO B w w') : Frm spO B w w' := h.mono tabO_sp

/-- Block tb of w is a table that holds T; all of it lies from B on. -/
def IsTab (B : Nat) (w : World) (tb : Nat) (T : List Nd) : Prop :=
  WfT T ∧ B ≤ tb ∧ ∃ v mb es clock cs, w.heap[tb]? = some (.cells #[v, .map (some mb)] 81 (0, 0)) ∧ B ≤ mb ∧ w.heap[mb]? = some (.map es clock) ∧ MapOk T es.toList ∧
    w.ownsRow B 85 3 v T.length cs ∧ CellsOk B w T cs ∧ (T = [] → v.ownBlock = none)
theorem IsTab.below {B : Nat} {w w' : World} {tb : Nat} {T : List Nd} (h : IsTab B w tb T) (hf : Below w.heap.size w w') : IsTab B w' tb T := by
  obtain ⟨h1, h2, v, mb, es, clock, cs, g1, g2, g3, g4, g5, g6⟩ := h
  exact ⟨h1, h2, v, mb, es, clock, cs, (hf.block _ (lt_of_get g1)).trans g1, g2, (hf.block _ (lt_of_get g3)).trans g3, g4, g5.kept (grown_of_below hf none) (by cases v.ownBlock <;> simp), g6.1.frm (.of_below hf), g6.2⟩
theorem IsTab.frm {C : Obj → Bool} {B B' : Nat} {w w' : World} {tb : Nat} {T : List Nd} (h : IsTab B w tb T) (hf : Frm C B' w w') (hB : B ≤ B') (hc : ∀ o, tabT o = true → C o = false) (hs : ∀ o, C o = true → spO o = true) : IsTab B w' tb T := by
  obtain ⟨h1, h2, v, mb, es, clock, cs, g1, g2, g3, g4, g5, g6⟩ := h
  refine ⟨h1, h2, v, mb, es, clock, cs, hf.block _ _ g1 (.inr (hc _ (by simp [tabT]))), g2, hf.block _ _ g3 (.inr (hc _ rfl)), g4, ⟨g5.1, ?_⟩, g6.1.frm' hf hB hs, g6.2⟩
  rcases g5.2 with k | ⟨g, cap, cur, e, k1, k2, k3⟩
  · exact .inl k
  · exact .inr ⟨g, cap, cur, e, k1, hf.block _ _ k2 (.inr (hc _ (by simp [tabT]))), k3⟩
/-- A table's own row is one that it may turn. -/
theorem row_turns {B : Nat} {w : World} {T : List Nd} {v : Value} {cs : List Value} (hw : WfT T) (hown : w.ownsRow B 85 3 v T.length cs) (hcs : CellsOk B w T cs) (hnil : T = [] → v.ownBlock = none) {k : Nat} {o : Obj} (hk : w.heap[k]? = some o) (e : some k = v.ownBlock) : tabO o = true := by
  rcases hown.2 with ⟨h, _⟩ | ⟨g, cap, cur, h, _, hg, _, _, _, hcur⟩
  · rw [h] at e; simp [Value.ownBlock] at e
  · cases hT : T with
    | nil => rw [hnil hT] at e; cases e
    | cons n0 R =>
      rw [h] at e
      simp only [Value.ownBlock, Option.some.injEq] at e
      subst e
      rw [hg] at hk
      cases hk
      have h0 : T[0]? = some n0 := by rw [hT]; rfl
      obtain ⟨A0, c0, hk0, -⟩ := hcs.parts 0 n0 h0
      have hp0 : n0.parts.length = 0 := by
        cases hp : n0.parts with
        | nil => rfl
        | cons p P =>
          have := (hw.good 0 n0 h0).range p (by rw [hp]; simp)
          omega
      rw [hp0] at hk0
      have hl5 : lone5 cur = false := by
        unfold lone5
        split
        · rename_i a b A n c hl
          rw [← hcur, hl, hT, List.getElem?_take] at hk0
          simp only [List.length_cons] at hk0
          rw [if_pos (by omega)] at hk0
          simp at hk0
          simp [hk0.2.1]
        · rfl
      simp [tabO, hl5]
theorem IsTab.lt {B : Nat} {w : World} {tb : Nat} {T : List Nd} (h : IsTab B w tb T) : tb < w.heap.size := by
  obtain ⟨h1, h2, v, mb, es, clock, cs, g1, _⟩ := h
  exact lt_of_get g1
end Go.Proofs.Ytomopjpfdmpgpaa
