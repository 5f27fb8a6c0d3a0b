/- Plain: a table of terms (layer 2), as a list. No condition. -/
import Derived.Test.YtomopjpfdmpgpaaLib
set_option linter.unusedVariables false
set_option linter.unusedSimpArgs false
namespace Go.Proofs.Ytomopjpfdmpgpaa
open Go Go.RowKit

/-- A term: its kind, its text, its parts. -/
structure Nd where
  kind : Int
  text : ByteArray
  parts : List Int
  deriving DecidableEq

/-- The number of a term that is there (from 0 on). -/
def lookT (T : List Nd) (n : Nd) : Option Nat := T.findIdx? (fun m => decide (m = n))
def addT (T : List Nd) (n : Nd) : List Nd × Int :=
  match (if n.kind = 2 then none else lookT T n) with
  | some i => (T, (i : Int) + 1)
  | none => if T.length = 65536 then (T, 0) else (T ++ [n], (T.length : Int) + 1)
def textT (T : List Nd) (b : ByteArray) : List Nd × Int := if b.size ≤ 2048 then addT T ⟨1, b, []⟩ else (T, 0)
def secretT (T : List Nd) : List Nd × Int := addT T ⟨2, ByteArray.empty, []⟩
/-- The term of a number. -/
def getT (T : List Nd) (h : Int) : Option Nd := if 1 ≤ h then T[(h - 1).toNat]? else none
def kindT (T : List Nd) (h : Int) : Int := match getT T h with | some n => n.kind | none => 0
def sort2 (a b : Int) : List Int := if b < a then [b, a] else [a, b]
/-- Have parts of these kinds a form? -/
def formedT (kind : Int) (l : List Int) : Bool :=
  if kind = 3 then decide (l.length ≤ 16)
  else if kind = 4 then decide (l.length = 1)
  else if kind = 5 then decide (l.length = 2)
  else if kind = 6 ∨ kind = 10 then decide (l.length = 3 ∧ nth l 1 = 1)
  else if kind = 7 then decide (l.length = 1 ∧ nth l 0 = 2)
  else if kind = 8 then decide (l.length = 2 ∧ nth l 0 = 2 ∧ nth l 1 = 7)
  else if kind = 9 then decide (l.length = 2 ∧ nth l 0 = 2)
  else false
/-- The parts as they stand in the table. -/
def ownT (T : List Nd) (kind : Int) (parts : List Int) : List Int :=
  if kind = 8 then (match getT T (nth parts 1) with | some p => sort2 (nth parts 0) (nth p.parts 0) | none => parts) else parts
def makeT (T : List Nd) (kind : Int) (parts : List Int) : List Nd × Int :=
  if (0 : Int) ∈ parts.map (kindT T) ∨ formedT kind (parts.map (kindT T)) = false then (T, 0) else addT T ⟨kind, ByteArray.empty, ownT T kind parts⟩

/-- What stands in a table. -/
structure GoodN (i : Nat) (T : List Nd) (n : Nd) : Prop where
  kind : 1 ≤ n.kind ∧ n.kind ≤ 10
  text : n.text.size ≤ 2048
  many : n.parts.length ≤ 16
  range : ∀ p ∈ n.parts, 1 ≤ p ∧ p ≤ i
  k1 : n.kind = 1 → n.parts = []
  k2 : n.kind = 2 → n.parts = [] ∧ n.text = ByteArray.empty
  k3 : n.kind ≠ 1 → n.text = ByteArray.empty
  k4 : n.kind = 4 → n.parts.length = 1
  k5 : n.kind = 5 → n.parts.length = 2
  k6 : n.kind = 6 ∨ n.kind = 10 → n.parts.length = 3 ∧ kindT T (nth n.parts 1) = 1
  k7 : n.kind = 7 → n.parts.length = 1 ∧ kindT T (nth n.parts 0) = 2
  k8 : n.kind = 8 → n.parts.length = 2 ∧ kindT T (nth n.parts 0) = 2 ∧ kindT T (nth n.parts 1) = 2 ∧ nth n.parts 0 ≤ nth n.parts 1
  k9 : n.kind = 9 → n.parts.length = 2 ∧ kindT T (nth n.parts 0) = 2
structure WfT (T : List Nd) : Prop where
  len : T.length ≤ 65536
  good : ∀ (i : Nat) (n : Nd), T[i]? = some n → GoodN i T n
  uniq : ∀ (i j : Nat) (n : Nd), T[i]? = some n → T[j]? = some n → n.kind ≠ 2 → i = j

theorem lookT_some {T : List Nd} {n : Nd} {i : Nat} (h : lookT T n = some i) : T[i]? = some n := by
  unfold lookT at h
  have := List.findIdx?_eq_some_iff_getElem.1 h
  obtain ⟨hl, hp, _⟩ := this
  simp at hp
  rw [List.getElem?_eq_getElem hl, hp]
theorem lookT_none {T : List Nd} {n : Nd} (h : lookT T n = none) : ∀ i : Nat, T[i]? ≠ some n := by
  intro i hi
  unfold lookT at h
  have := List.findIdx?_eq_none_iff.1 h n (List.mem_of_getElem? hi)
  simp at this
theorem lookT_of {T : List Nd} (hw : WfT T) {n : Nd} {i : Nat} (h : T[i]? = some n) (hk : n.kind ≠ 2) : lookT T n = some i := by
  cases hl : lookT T n with
  | none => exact absurd h (lookT_none hl i)
  | some j => rw [hw.uniq j i n (lookT_some hl) h hk]

theorem getT_nat {T : List Nd} (i : Nat) : getT T ((i : Int) + 1) = T[i]? := by
  unfold getT
  rw [if_pos (by omega)]
  congr 1
  omega
theorem getT_range {T : List Nd} {h : Int} {n : Nd} (e : getT T h = some n) : 1 ≤ h ∧ h ≤ T.length := by
  unfold getT at e
  split at e
  · have := (List.getElem?_eq_some_iff.1 e).1
    omega
  · cases e
theorem getT_some {T : List Nd} {h : Int} (h0 : 1 ≤ h) (h1 : h ≤ T.length) : ∃ n, getT T h = some n := by
  unfold getT
  rw [if_pos h0]
  exact ⟨_, List.getElem?_eq_getElem (by omega)⟩
theorem getT_none {T : List Nd} {h : Int} (k : ¬(1 ≤ h ∧ h ≤ T.length)) : getT T h = none := by
  unfold getT
  split
  · exact List.getElem?_eq_none (by omega)
  · rfl
theorem getT_mono {T T' : List Nd} {h : Int} {n : Nd} (e : getT T h = some n) : getT (T ++ T') h = some n := by
  have hr := getT_range e
  unfold getT at e ⊢
  rw [if_pos hr.1] at e ⊢
  rw [List.getElem?_append_left (by omega), e]
theorem kindT_mono {T T' : List Nd} {h : Int} {k : Int} (e : kindT T h = k) (hk : k ≠ 0) : kindT (T ++ T') h = k := by
  unfold kindT at e ⊢
  cases hg : getT T h with
  | none => rw [hg] at e; exact absurd e.symm hk
  | some n => rw [hg] at e; rw [getT_mono hg]; exact e
theorem kindT_range {T : List Nd} {h : Int} (e : kindT T h ≠ 0) : 1 ≤ h ∧ h ≤ T.length := by
  unfold kindT at e
  cases hg : getT T h with
  | none => rw [hg] at e; exact absurd rfl e
  | some n => exact getT_range hg
theorem WfT.kind {T : List Nd} (hw : WfT T) {h : Int} (h0 : 1 ≤ h) (h1 : h ≤ T.length) : 1 ≤ kindT T h ∧ kindT T h ≤ 10 := by
  obtain ⟨n, e⟩ := getT_some h0 h1
  unfold kindT
  rw [e]
  unfold getT at e
  rw [if_pos h0] at e
  exact (hw.good _ _ e).kind
theorem WfT.get {T : List Nd} (hw : WfT T) {h : Int} {n : Nd} (e : getT T h = some n) : GoodN (h - 1).toNat T n := by
  have hr := getT_range e
  unfold getT at e
  rw [if_pos hr.1] at e
  exact hw.good _ _ e
theorem kindT_get {T : List Nd} {h : Int} {n : Nd} (e : getT T h = some n) : kindT T h = n.kind := by unfold kindT; rw [e]

theorem GoodN.mono {i : Nat} {T T' : List Nd} {n : Nd} (h : GoodN i T n) : GoodN i (T ++ T') n :=
  ⟨h.kind, h.text, h.many, h.range, h.k1, h.k2, h.k3, h.k4, h.k5, fun k => ⟨(h.k6 k).1, kindT_mono (h.k6 k).2 (by decide)⟩, fun k => ⟨(h.k7 k).1, kindT_mono (h.k7 k).2 (by decide)⟩,
    fun k => ⟨(h.k8 k).1, kindT_mono (h.k8 k).2.1 (by decide), kindT_mono (h.k8 k).2.2.1 (by decide), (h.k8 k).2.2.2⟩, fun k => ⟨(h.k9 k).1, kindT_mono (h.k9 k).2 (by decide)⟩⟩

theorem wfT_nil : WfT [] := ⟨by simp, fun i n h => by simp at h, fun i j n h => by simp at h⟩
theorem wfT_snoc {T : List Nd} (hw : WfT T) {n : Nd} (hn : GoodN T.length T n) (hl : T.length < 65536) (hu : n.kind ≠ 2 → ∀ i : Nat, T[i]? ≠ some n) : WfT (T ++ [n]) := by
  refine ⟨by simp; omega, fun i m h => ?_, fun i j m h h' hk => ?_⟩
  · rw [List.getElem?_append] at h
    split at h
    · exact (hw.good i m h).mono
    · have : i = T.length := by
        rcases Nat.lt_or_ge (i - T.length) 1 with h1 | h1
        · omega
        · rw [List.getElem?_eq_none (by simpa using h1)] at h; cases h
      subst this
      simp at h
      subst h
      exact hn.mono
  · rw [List.getElem?_append] at h h'
    split at h <;> split at h'
    · exact hw.uniq i j m h h' hk
    · have : m = n := by
        rcases Nat.lt_or_ge (j - T.length) 1 with h1 | h1
        · have : j - T.length = 0 := by omega
          rw [this] at h'; simpa using h'.symm
        · rw [List.getElem?_eq_none (by simpa using h1)] at h'; cases h'
      subst this
      exact absurd h (hu hk i)
    · have : m = n := by
        rcases Nat.lt_or_ge (i - T.length) 1 with h1 | h1
        · have : i - T.length = 0 := by omega
          rw [this] at h; simpa using h.symm
        · rw [List.getElem?_eq_none (by simpa using h1)] at h; cases h
      subst this
      exact absurd h' (hu hk j)
    · rcases Nat.lt_or_ge (i - T.length) 1 with h1 | h1
      · rcases Nat.lt_or_ge (j - T.length) 1 with h2 | h2
        · omega
        · rw [List.getElem?_eq_none (by simpa using h2)] at h'; cases h'
      · rw [List.getElem?_eq_none (by simpa using h1)] at h; cases h
theorem wfT_add {T : List Nd} (hw : WfT T) {n : Nd} (hn : GoodN T.length T n) : WfT (addT T n).1 := by
  unfold addT
  split
  · exact hw
  · rename_i he
    split
    · exact hw
    · rename_i hl
      refine wfT_snoc hw hn (by have := hw.len; omega) fun hk => ?_
      rw [if_neg hk] at he
      exact lookT_none he
end Go.Proofs.Ytomopjpfdmpgpaa
