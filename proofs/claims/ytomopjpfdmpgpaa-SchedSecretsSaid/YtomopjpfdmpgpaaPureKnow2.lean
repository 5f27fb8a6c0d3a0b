/- Own texts, one behind the other. Each bears its own remark. -/
import Derived.Test.YtomopjpfdmpgpaaPureTab
/- Plain: what follows of what is known, and what can be made (layer 3): the least such sets, and a pass that is repeated. No condition. -/
set_option linter.unusedVariables false
set_option linter.unusedSimpArgs false
namespace Go.Proofs.Ytomopjpfdmpgpaa
open Go Go.RowKit

/-- What follows (true), what can be made (false), of what S says. -/
inductive Kn (T : List Nd) (S : Int → Prop) : Bool → Int → Prop
  | base {h : Int} {n : Nd} : getT T h = some n → S h → Kn T S true h
  | row {h p : Int} {n : Nd} : getT T h = some n → n.kind = 3 → p ∈ n.parts → Kn T S true h → Kn T S true p
  | signed {h p : Int} {n : Nd} : getT T h = some n → n.kind = 9 → p ∈ n.parts.drop 1 → Kn T S true h → Kn T S true p
  | sealed {h p : Int} {n : Nd} : getT T h = some n → n.kind = 10 → p ∈ n.parts.drop 2 → Kn T S true h → Kn T S false (nth n.parts 0) → Kn T S true p
  | fol {h : Int} : Kn T S true h → Kn T S false h
  | text {h : Int} {n : Nd} : getT T h = some n → n.kind = 1 → Kn T S false h
  | both {h : Int} {n : Nd} : getT T h = some n → n.kind = 8 → Kn T S false (nth n.parts 0) → Kn T S false (nth n.parts 1) → Kn T S false h
  | left {h q : Int} {n m : Nd} : getT T h = some n → n.kind = 8 → Kn T S false (nth n.parts 0) → getT T q = some m → m.kind = 7 → nth m.parts 0 = nth n.parts 1 → Kn T S true q → Kn T S false h
  | right {h q : Int} {n m : Nd} : getT T h = some n → n.kind = 8 → Kn T S false (nth n.parts 1) → getT T q = some m → m.kind = 7 → nth m.parts 0 = nth n.parts 0 → Kn T S true q → Kn T S false h
  | made {h : Int} {n : Nd} : getT T h = some n → n.kind ≠ 2 → n.kind ≠ 8 → (∀ p ∈ n.parts, Kn T S false p) → Kn T S false h

/-- Sets that are closed. -/
structure ClosedK (T : List Nd) (S F C : Int → Prop) : Prop where
  base : ∀ h n, getT T h = some n → S h → F h
  row : ∀ h n p, getT T h = some n → n.kind = 3 → p ∈ n.parts → F h → F p
  signed : ∀ h n p, getT T h = some n → n.kind = 9 → p ∈ n.parts.drop 1 → F h → F p
  sealed : ∀ h n p, getT T h = some n → n.kind = 10 → p ∈ n.parts.drop 2 → F h → C (nth n.parts 0) → F p
  fol : ∀ h, F h → C h
  text : ∀ h n, getT T h = some n → n.kind = 1 → C h
  both : ∀ h n, getT T h = some n → n.kind = 8 → C (nth n.parts 0) → C (nth n.parts 1) → C h
  left : ∀ h n q m, getT T h = some n → n.kind = 8 → C (nth n.parts 0) → getT T q = some m → m.kind = 7 → nth m.parts 0 = nth n.parts 1 → F q → C h
  right : ∀ h n q m, getT T h = some n → n.kind = 8 → C (nth n.parts 1) → getT T q = some m → m.kind = 7 → nth m.parts 0 = nth n.parts 0 → F q → C h
  made : ∀ h n, getT T h = some n → n.kind ≠ 2 → n.kind ≠ 8 → (∀ p ∈ n.parts, C p) → C h
theorem kn_closed (T : List Nd) (S : Int → Prop) : ClosedK T S (Kn T S true) (Kn T S false) :=
  ⟨fun _ _ a b => .base a b, fun _ _ _ a b c d => .row a b c d, fun _ _ _ a b c d => .signed a b c d, fun _ _ _ a b c d e => .sealed a b c d e, fun _ a => .fol a, fun _ _ a b => .text a b,
    fun _ _ a b c d => .both a b c d, fun _ _ _ _ a b c d e f g => .left a b c d e f g, fun _ _ _ _ a b c d e f g => .right a b c d e f g, fun _ _ a b c d => .made a b c d⟩
theorem Kn.le {T : List Nd} {S F C : Int → Prop} (k : ClosedK T S F C) {b : Bool} {h : Int} (hk : Kn T S b h) : if b then F h else C h := by
  induction hk with
  | base a b => exact k.base _ _ a b
  | row a b c _ ih => exact k.row _ _ _ a b c ih
  | signed a b c _ ih => exact k.signed _ _ _ a b c ih
  | sealed a b c _ _ ih1 ih2 => exact k.sealed _ _ _ a b c ih1 ih2
  | fol _ ih => exact k.fol _ ih
  | text a b => exact k.text _ _ a b
  | both a b _ _ ih1 ih2 => exact k.both _ _ a b ih1 ih2
  | left a b _ c d e _ ih1 ih2 => exact k.left _ _ _ _ a b ih1 c d e ih2
  | right a b _ c d e _ ih1 ih2 => exact k.right _ _ _ _ a b ih1 c d e ih2
  | made a b c _ ih => exact k.made _ _ a b c ih
theorem Kn.fle {T : List Nd} {S F C : Int → Prop} (k : ClosedK T S F C) {h : Int} (hk : Kn T S true h) : F h := by simpa using hk.le k
theorem Kn.cle {T : List Nd} {S F C : Int → Prop} (k : ClosedK T S F C) {h : Int} (hk : Kn T S false h) : C h := by simpa using hk.le k
theorem Kn.mono {T : List Nd} {S S' : Int → Prop} (hS : ∀ h, S h → S' h) {b : Bool} {h : Int} (hk : Kn T S b h) : Kn T S' b h := by
  have k := kn_closed T S'
  have k' : ClosedK T S (Kn T S' true) (Kn T S' false) := { k with base := fun h n a b => k.base h n a (hS h b) }
  have := hk.le k'
  cases b <;> simpa using this
theorem Kn.grow {T T' : List Nd} {S : Int → Prop} {b : Bool} {h : Int} (hk : Kn T S b h) : Kn (T ++ T') S b h := by
  induction hk with
  | base a b => exact .base (getT_mono a) b
  | row a b c _ ih => exact .row (getT_mono a) b c ih
  | signed a b c _ ih => exact .signed (getT_mono a) b c ih
  | sealed a b c _ _ ih1 ih2 => exact .sealed (getT_mono a) b c ih1 ih2
  | fol _ ih => exact .fol ih
  | text a b => exact .text (getT_mono a) b
  | both a b _ _ ih1 ih2 => exact .both (getT_mono a) b ih1 ih2
  | left a b _ c d e _ ih1 ih2 => exact .left (getT_mono a) b ih1 (getT_mono c) d e ih2
  | right a b _ c d e _ ih1 ih2 => exact .right (getT_mono a) b ih1 (getT_mono c) d e ih2
  | made a b c _ ih => exact .made (getT_mono a) b c ih
/-- What is known is a term that there is. -/
theorem Kn.there {T : List Nd} (hw : WfT T) {S : Int → Prop} {b : Bool} {h : Int} (hk : Kn T S b h) : 1 ≤ h ∧ h ≤ T.length := by
  have pr : ∀ {h p : Int} {n : Nd}, getT T h = some n → p ∈ n.parts → 1 ≤ p ∧ p ≤ T.length := fun {h p n} a b => by
    have := (hw.get a).range p b
    have := getT_range a
    omega
  induction hk with
  | base a b => exact getT_range a
  | row a b c _ ih => exact pr a c
  | signed a b c _ ih => exact pr a (List.mem_of_mem_drop c)
  | sealed a b c _ _ ih1 ih2 => exact pr a (List.mem_of_mem_drop c)
  | fol _ ih => exact ih
  | text a b => exact getT_range a
  | both a b _ _ ih1 ih2 => exact getT_range a
  | left a b _ c d e _ ih1 ih2 => exact getT_range a
  | right a b _ c d e _ ih1 ih2 => exact getT_range a
  | made a b c _ ih => exact getT_range a

/-! ### Rows of bools -/
def bget (l : List Bool) (h : Int) : Bool := l.getD h.toNat false
def bset (l : List Bool) (h : Int) : List Bool := l.set h.toNat true
theorem bset_length (l : List Bool) (h : Int) : (bset l h).length = l.length := by simp [bset]
theorem bget_set (l : List Bool) (h q : Int) (hl : h.toNat < l.length) : bget (bset l h) q = (decide (h.toNat = q.toNat) || bget l q) := by
  unfold bget bset
  rw [List.getD_eq_getElem?_getD, List.getD_eq_getElem?_getD, List.getElem?_set]
  by_cases e : h.toNat = q.toNat
  · rw [if_pos e, if_pos hl]; simp [e]
  · rw [if_neg e]; simp [e]
theorem bset_same (l : List Bool) (h : Int) (hb : bget l h = true) : bset l h = l := by
  unfold bget at hb
  unfold bset
  apply List.ext_getElem?
  intro j
  rw [List.getElem?_set]
  by_cases e : h.toNat = j
  · subst e
    rw [List.getD_eq_getElem?_getD] at hb
    cases hj : l[h.toNat]? with
    | none => rw [hj] at hb; cases hb
    | some v =>
      rw [hj] at hb
      have := (List.getElem?_eq_some_iff.1 hj).1
      simp at hb
      simp [this, hb]
  · rw [if_neg e]
def cntB (l : List Bool) : Nat := l.count true
theorem cntB_le (l : List Bool) : cntB l ≤ l.length := List.count_le_length
theorem cntB_set {l : List Bool} {h : Int} (hl : h.toNat < l.length) (hb : bget l h = false) : cntB (bset l h) = cntB l + 1 := by
  unfold bget at hb
  unfold cntB bset
  generalize h.toNat = i at *
  induction l generalizing i with
  | nil => simp at hl
  | cons a l ih =>
    cases i with
    | zero =>
      simp at hb
      subst hb
      simp
    | succ i =>
      simp at hb hl
      simp only [List.set_cons_succ, List.count_cons]
      rw [ih i hl (by simpa using hb)]
      omega

/-! ### A pass -/
structure KS where
  F : List Bool
  C : List Bool
  ch : Bool
def setF (s : KS) (p : Int) : KS := if bget s.F p then s else ⟨bset s.F p, s.C, true⟩
def setC (s : KS) (p : Int) : KS := if bget s.C p then s else ⟨s.F, bset s.C p, true⟩
def openedL (C : List Bool) (n : Nd) : List Int := if n.kind = 3 then n.parts else if n.kind = 9 then n.parts.drop 1 else if n.kind = 10 then (if bget C (nth n.parts 0) then n.parts.drop 2 else []) else []
def madeB (F C pub : List Bool) (h : Int) (n : Nd) : Bool :=
  if bget F h = true ∨ n.kind = 1 then true
  else if n.kind = 2 then false
  else if n.kind = 8 then (bget C (nth n.parts 0) && (bget C (nth n.parts 1) || bget pub (nth n.parts 1))) || (bget C (nth n.parts 1) && bget pub (nth n.parts 0))
  else n.parts.all (bget C)
def pubStep (F out : List Bool) (h : Int) (n : Nd) : List Bool := if n.kind = 7 ∧ bget F h = true then bset out (nth n.parts 0) else out
/-- The first k steps, over the terms 1 to k. -/
def pubK (T : List Nd) (F : List Bool) (z : List Bool) : Nat → List Bool
  | 0 => z
  | k + 1 => match T[k]? with
    | some n => pubStep F (pubK T F z k) ((k : Int) + 1) n
    | none => pubK T F z k
def pubL (T : List Nd) (F : List Bool) : List Bool := pubK T F (List.replicate (T.length + 1) false) T.length
def stepMade (pub : List Bool) (s : KS) (h : Int) (n : Nd) : KS := if madeB s.F s.C pub h n then setC s h else s
def stepOpen (s : KS) (h : Int) (n : Nd) : KS := if bget s.F h then (openedL s.C n).foldl setF s else s
def stepK (pub : List Bool) (s : KS) (h : Int) (n : Nd) : KS := stepOpen (stepMade pub s h n) h n
def passK (T : List Nd) (pub : List Bool) (s : KS) : Nat → KS
  | 0 => s
  | k + 1 => match T[k]? with
    | some n => stepK pub (passK T pub s k) ((k : Int) + 1) n
    | none => passK T pub s k
def onePass (T : List Nd) (F C : List Bool) : KS := passK T (pubL T F) ⟨F, C, false⟩ T.length

/-- The state speaks of terms that there are. -/
structure LenK (T : List Nd) (s : KS) : Prop where
  F : s.F.length = T.length + 1
  C : s.C.length = T.length + 1
def SoundK (T : List Nd) (S : Int → Prop) (s : KS) : Prop := (∀ h, 1 ≤ h → bget s.F h = true → Kn T S true h) ∧ (∀ h, 1 ≤ h → bget s.C h = true → Kn T S false h)
/-- From s to s' more is so; nothing is, if nothing was marked as changed. -/
structure MoreK (s s' : KS) : Prop where
  F : ∀ h, bget s.F h = true → bget s'.F h = true
  C : ∀ h, bget s.C h = true → bget s'.C h = true
  ch : s.ch = true → s'.ch = true
  same : s'.ch = false → s' = s
  cnt : (s'.ch = true → s.ch = false → cntB s.F + cntB s.C < cntB s'.F + cntB s'.C)
  cntle : cntB s.F + cntB s.C ≤ cntB s'.F + cntB s'.C
theorem MoreK.refl (s : KS) : MoreK s s := ⟨fun _ h => h, fun _ h => h, fun h => h, fun _ => rfl, fun h k => (by rw [h] at k; cases k), Nat.le_refl _⟩
theorem MoreK.trans {s t u : KS} (h : MoreK s t) (k : MoreK t u) : MoreK s u := by
  refine ⟨fun x e => k.F x (h.F x e), fun x e => k.C x (h.C x e), fun e => k.ch (h.ch e), fun e => ?_, fun e f => ?_, Nat.le_trans h.cntle k.cntle⟩
  · have e1 := k.same e
    rw [e1, h.same (by rw [← e1]; exact e)]
  · cases ht : t.ch with
    | true => have := h.cnt ht f; have := k.cntle; omega
    | false => have := k.cnt e ht; have := h.cntle; omega
theorem setF_more {T : List Nd} {s : KS} (hl : LenK T s) {p : Int} (h0 : 1 ≤ p) (h1 : p ≤ T.length) : MoreK s (setF s p) ∧ LenK T (setF s p) ∧ bget (setF s p).F p = true := by
  have hp : p.toNat < s.F.length := by rw [hl.F]; omega
  unfold setF
  by_cases hb : bget s.F p = true
  · rw [if_pos hb]; exact ⟨.refl s, hl, hb⟩
  · rw [if_neg hb]
    have hb' : bget s.F p = false := by simpa using hb
    refine ⟨⟨fun x e => ?_, fun x e => e, fun _ => rfl, fun e => (by cases e), fun _ _ => ?_, ?_⟩, ⟨by rw [bset_length]; exact hl.F, hl.C⟩, ?_⟩
    · show bget (bset s.F p) x = true
      rw [bget_set _ _ _ hp, e]; simp
    · show cntB s.F + cntB s.C < cntB (bset s.F p) + cntB s.C
      rw [cntB_set hp hb']; omega
    · show cntB s.F + cntB s.C ≤ cntB (bset s.F p) + cntB s.C
      rw [cntB_set hp hb']; omega
    · show bget (bset s.F p) p = true
      rw [bget_set _ _ _ hp]; simp
theorem setC_more {T : List Nd} {s : KS} (hl : LenK T s) {p : Int} (h0 : 1 ≤ p) (h1 : p ≤ T.length) : MoreK s (setC s p) ∧ LenK T (setC s p) ∧ bget (setC s p).C p = true := by
  have hp : p.toNat < s.C.length := by rw [hl.C]; omega
  unfold setC
  by_cases hb : bget s.C p = true
  · rw [if_pos hb]; exact ⟨.refl s, hl, hb⟩
  · rw [if_neg hb]
    have hb' : bget s.C p = false := by simpa using hb
    refine ⟨⟨fun x e => e, fun x e => ?_, fun _ => rfl, fun e => (by cases e), fun _ _ => ?_, ?_⟩, ⟨hl.F, by rw [bset_length]; exact hl.C⟩, ?_⟩
    · show bget (bset s.C p) x = true
      rw [bget_set _ _ _ hp, e]; simp
    · show cntB s.F + cntB s.C < cntB s.F + cntB (bset s.C p)
      rw [cntB_set hp hb']; omega
    · show cntB s.F + cntB s.C ≤ cntB s.F + cntB (bset s.C p)
      rw [cntB_set hp hb']; omega
    · show bget (bset s.C p) p = true
      rw [bget_set _ _ _ hp]; simp
theorem setF_sound {T : List Nd} {S : Int → Prop} {s : KS} (hl : LenK T s) (hs : SoundK T S s) {p : Int} (h0 : 1 ≤ p) (h1 : p ≤ T.length) (hk : Kn T S true p) : SoundK T S (setF s p) := by
  have hp : p.toNat < s.F.length := by rw [hl.F]; omega
  unfold setF
  split
  · exact hs
  · refine ⟨fun h hh e => ?_, hs.2⟩
    replace e : bget (bset s.F p) h = true := e
    rw [bget_set _ _ _ hp] at e
    by_cases k : p.toNat = h.toNat
    · have : p = h := by omega
      rw [← this]; exact hk
    · exact hs.1 h hh (by simpa [k] using e)
theorem setC_sound {T : List Nd} {S : Int → Prop} {s : KS} (hl : LenK T s) (hs : SoundK T S s) {p : Int} (h0 : 1 ≤ p) (h1 : p ≤ T.length) (hk : Kn T S false p) : SoundK T S (setC s p) := by
  have hp : p.toNat < s.C.length := by rw [hl.C]; omega
  unfold setC
  split
  · exact hs
  · refine ⟨hs.1, fun h hh e => ?_⟩
    replace e : bget (bset s.C p) h = true := e
    rw [bget_set _ _ _ hp] at e
    by_cases k : p.toNat = h.toNat
    · have : p = h := by omega
      rw [← this]; exact hk
    · exact hs.2 h hh (by simpa [k] using e)
theorem foldF_more {T : List Nd} : ∀ (l : List Int) {s : KS} (hl : LenK T s) (hr : ∀ p ∈ l, 1 ≤ p ∧ p ≤ T.length), MoreK s (l.foldl setF s) ∧ LenK T (l.foldl setF s) ∧ (∀ p ∈ l, bget (l.foldl setF s).F p = true) ∧ (l.foldl setF s).C = s.C
  | [], s, hl, _ => ⟨.refl s, hl, fun p hp => by simp at hp, rfl⟩
  | a :: l, s, hl, hr => by
    have ha := hr a (by simp)
    obtain ⟨m1, l1, b1⟩ := setF_more hl ha.1 ha.2
    obtain ⟨m2, l2, b2, c2⟩ := foldF_more l l1 fun p hp => hr p (by simp [hp])
    refine ⟨m1.trans m2, l2, fun p hp => ?_, ?_⟩
    · rcases List.mem_cons.1 hp with rfl | hp
      · exact m2.F _ b1
      · exact b2 p hp
    · show (l.foldl setF (setF s a)).C = _
      rw [c2]; unfold setF; split <;> rfl
theorem foldF_sound {T : List Nd} {S : Int → Prop} : ∀ (l : List Int) {s : KS} (hl : LenK T s) (hs : SoundK T S s) (hr : ∀ p ∈ l, (1 ≤ p ∧ p ≤ T.length) ∧ Kn T S true p), SoundK T S (l.foldl setF s)
  | [], s, hl, hs, _ => hs
  | a :: l, s, hl, hs, hr => by
    have ha := hr a (by simp)
    exact foldF_sound l (setF_more hl ha.1.1 ha.1.2).2.1 (setF_sound hl hs ha.1.1 ha.1.2 ha.2) fun p hp => hr p (by simp [hp])

/-- What a row of publics says. -/
theorem pubK_spec {T : List Nd} (hw : WfT T) (F z : List Bool) (hz : z.length = T.length + 1) : ∀ k, k ≤ T.length → (pubK T F z k).length = T.length + 1 ∧ ∀ q : Int, 1 ≤ q → (bget (pubK T F z k) q = true ↔ bget z q = true ∨ ∃ h m, getT T h = some m ∧ h ≤ k ∧ m.kind = 7 ∧ bget F h = true ∧ nth m.parts 0 = q)
  | 0, _ => ⟨hz, fun q hq => ⟨.inl, fun h => by
      rcases h with h | ⟨h, m, a, b, _⟩
      · exact h
      · have := getT_range a; omega⟩⟩
  | k + 1, hk => by
    obtain ⟨l1, ih⟩ := pubK_spec hw F z hz k (by omega)
    have hT : T[k]? = some T[k] := List.getElem?_eq_getElem (by omega)
    have hg : getT T ((k : Int) + 1) = some T[k] := by rw [getT_nat]; exact hT
    have hs : pubK T F z (k + 1) = pubStep F (pubK T F z k) ((k : Int) + 1) T[k] := by
      show (match T[k]? with | some n => pubStep F (pubK T F z k) ((k : Int) + 1) n | none => pubK T F z k) = _
      rw [hT]
    rw [hs]
    have lift : ∀ q : Int, (∃ h m, getT T h = some m ∧ h ≤ (k : Int) ∧ m.kind = 7 ∧ bget F h = true ∧ nth m.parts 0 = q) → ∃ h m, getT T h = some m ∧ h ≤ ((k + 1 : Nat) : Int) ∧ m.kind = 7 ∧ bget F h = true ∧ nth m.parts 0 = q := by
      rintro q ⟨h, m, a, b, c⟩
      exact ⟨h, m, a, by omega, c⟩
    have down : ∀ q : Int, ¬ (T[k].kind = 7 ∧ bget F ((k : Int) + 1) = true ∧ nth T[k].parts 0 = q) → (∃ h m, getT T h = some m ∧ h ≤ ((k + 1 : Nat) : Int) ∧ m.kind = 7 ∧ bget F h = true ∧ nth m.parts 0 = q) → ∃ h m, getT T h = some m ∧ h ≤ (k : Int) ∧ m.kind = 7 ∧ bget F h = true ∧ nth m.parts 0 = q := by
      rintro q hn ⟨h, m, a, b, c⟩
      refine ⟨h, m, a, ?_, c⟩
      rcases Int.lt_or_le (k : Int) h with h1 | h1
      · have : h = (k : Int) + 1 := by omega
        subst this
        rw [hg] at a
        cases a
        exact absurd c hn
      · exact h1
    unfold pubStep
    by_cases hc : T[k].kind = 7 ∧ bget F ((k : Int) + 1) = true
    · rw [if_pos hc]
      have hp := ((hw.get hg).k7 hc.1)
      have hpr : 1 ≤ nth T[k].parts 0 ∧ nth T[k].parts 0 ≤ T.length := by
        have h1 := kindT_range (T := T) (h := nth T[k].parts 0) (by rw [hp.2]; decide)
        exact h1
      refine ⟨by rw [bset_length]; exact l1, fun q hq => ?_⟩
      rw [bget_set _ _ _ (by rw [l1]; omega)]
      by_cases e : nth T[k].parts 0 = q
      · subst e
        simp only [decide_true, Bool.true_or, true_iff]
        exact .inr ⟨_, _, hg, by omega, hc.1, hc.2, rfl⟩
      · have e' : ¬ (nth T[k].parts 0).toNat = q.toNat := by omega
        rw [decide_eq_false e', Bool.false_or, ih q hq]
        exact or_congr_right ⟨lift q, down q fun h => e h.2.2⟩
    · rw [if_neg hc]
      refine ⟨l1, fun q hq => ?_⟩
      rw [ih q hq]
      exact or_congr_right ⟨lift q, down q fun h => hc ⟨h.1, h.2.1⟩⟩
theorem pubL_spec {T : List Nd} (hw : WfT T) (F : List Bool) : (pubL T F).length = T.length + 1 ∧ ∀ q : Int, 1 ≤ q → (bget (pubL T F) q = true ↔ ∃ h m, getT T h = some m ∧ m.kind = 7 ∧ bget F h = true ∧ nth m.parts 0 = q) := by
  obtain ⟨h1, h2⟩ := pubK_spec hw F (List.replicate (T.length + 1) false) (by simp) T.length (Nat.le_refl _)
  refine ⟨h1, fun q hq => ?_⟩
  show bget (pubK _ _ _ _) q = true ↔ _
  rw [h2 q hq]
  constructor
  · rintro (h | ⟨h, m, a, b, c⟩)
    · unfold bget at h
      rw [List.getD_eq_getElem?_getD, List.getElem?_replicate] at h
      split at h <;> simp at h
    · exact ⟨h, m, a, c⟩
  · rintro ⟨h, m, a, c⟩
    exact .inr ⟨h, m, a, (getT_range a).2, c⟩
end Go.Proofs.Ytomopjpfdmpgpaa

/- Plain: a pass over all terms is sound; where it turns nothing its sets are the least ones (layer 3). No condition. -/
set_option linter.unusedVariables false
set_option linter.unusedSimpArgs false
namespace Go.Proofs.Ytomopjpfdmpgpaa
open Go Go.RowKit

theorem openedL_mem {T : List Nd} (hw : WfT T) {h : Int} {n : Nd} (hg : getT T h = some n) (C : List Bool) : ∀ p ∈ openedL C n, p ∈ n.parts ∧ 1 ≤ p ∧ p ≤ T.length := by
  intro p hp
  have hm : p ∈ n.parts := by
    unfold openedL at hp
    split at hp
    · exact hp
    · split at hp
      · exact List.mem_of_mem_drop hp
      · split at hp
        · split at hp
          · exact List.mem_of_mem_drop hp
          · simp at hp
        · simp at hp
  have := (hw.get hg).range p hm
  have := getT_range hg
  exact ⟨hm, by omega, by omega⟩
theorem nth_range {T : List Nd} (hw : WfT T) {h : Int} {n : Nd} (hg : getT T h = some n) {i : Nat} (hi : i < n.parts.length) : 1 ≤ nth n.parts i ∧ nth n.parts i ≤ T.length := by
  have := (hw.get hg).range _ (nth_mem hi)
  have := getT_range hg
  omega
theorem opened_sound {T : List Nd} {S : Int → Prop} (hw : WfT T) {s : KS} (hs : SoundK T S s) {h : Int} {n : Nd} (hg : getT T h = some n) (hf : bget s.F h = true) : ∀ p ∈ openedL s.C n, Kn T S true p := by
  intro p hp
  have hk := hs.1 h (getT_range hg).1 hf
  unfold openedL at hp
  split at hp
  · exact .row hg (by assumption) hp hk
  · split at hp
    · exact .signed hg (by assumption) hp hk
    · split at hp
      · rename_i k10
        split at hp
        · rename_i hc
          have hl := ((hw.get hg).k6 (.inr k10)).1
          exact .sealed hg k10 hp hk (hs.2 _ (nth_range hw hg (by omega)).1 hc)
        · simp at hp
      · simp at hp
theorem made_sound {T : List Nd} {S : Int → Prop} (hw : WfT T) {s : KS} {pub : List Bool} (hs : SoundK T S s) (hp : ∀ q : Int, 1 ≤ q → bget pub q = true → ∃ h m, getT T h = some m ∧ m.kind = 7 ∧ Kn T S true h ∧ nth m.parts 0 = q) {h : Int} {n : Nd} (hg : getT T h = some n) (hm : madeB s.F s.C pub h n = true) : Kn T S false h := by
  have h1 := (getT_range hg).1
  unfold madeB at hm
  split at hm
  · rename_i k
    rcases k with k | k
    · exact .fol (hs.1 h h1 k)
    · exact .text hg k
  · split at hm
    · cases hm
    · rename_i k2
      split at hm
      · rename_i k8
        have hl := ((hw.get hg).k8 k8).1
        have r0 := nth_range hw hg (i := 0) (by omega)
        have r1 := nth_range hw hg (i := 1) (by omega)
        simp only [Bool.or_eq_true, Bool.and_eq_true] at hm
        rcases hm with ⟨a, b | b⟩ | ⟨a, b⟩
        · exact .both hg k8 (hs.2 _ r0.1 a) (hs.2 _ r1.1 b)
        · obtain ⟨q, m, e1, e2, e3, e4⟩ := hp _ r1.1 b
          exact .left hg k8 (hs.2 _ r0.1 a) e1 e2 e4 e3
        · obtain ⟨q, m, e1, e2, e3, e4⟩ := hp _ r0.1 b
          exact .right hg k8 (hs.2 _ r1.1 a) e1 e2 e4 e3
      · rename_i k8
        refine .made hg k2 k8 fun p hpp => ?_
        have := List.all_eq_true.1 hm p hpp
        have r := (hw.get hg).range p hpp
        exact hs.2 p r.1 this
theorem SoundK.mono {T : List Nd} {S S' : Int → Prop} (hS : ∀ h, S h → S' h) {s : KS} (h : SoundK T S s) : SoundK T S' s := ⟨fun x a b => (h.1 x a b).mono hS, fun x a b => (h.2 x a b).mono hS⟩
theorem stepMade_more {T : List Nd} {s : KS} (hl : LenK T s) (pub : List Bool) {h : Int} {n : Nd} (hg : getT T h = some n) : MoreK s (stepMade pub s h n) ∧ LenK T (stepMade pub s h n) := by
  have hr := getT_range hg
  unfold stepMade
  split
  · obtain ⟨a, b, _⟩ := setC_more hl hr.1 hr.2; exact ⟨a, b⟩
  · exact ⟨.refl s, hl⟩
theorem stepOpen_more {T : List Nd} (hw : WfT T) {s : KS} (hl : LenK T s) {h : Int} {n : Nd} (hg : getT T h = some n) : MoreK s (stepOpen s h n) ∧ LenK T (stepOpen s h n) := by
  unfold stepOpen
  split
  · obtain ⟨a, b, _⟩ := foldF_more (openedL s.C n) hl fun p hp => (openedL_mem hw hg s.C p hp).2; exact ⟨a, b⟩
  · exact ⟨.refl s, hl⟩
theorem stepK_more {T : List Nd} (hw : WfT T) {s : KS} (hl : LenK T s) (pub : List Bool) {h : Int} {n : Nd} (hg : getT T h = some n) : MoreK s (stepK pub s h n) ∧ LenK T (stepK pub s h n) := by
  obtain ⟨a, b⟩ := stepMade_more hl pub hg
  obtain ⟨c, d⟩ := stepOpen_more hw b hg
  exact ⟨a.trans c, d⟩
theorem stepK_sound {T : List Nd} {S : Int → Prop} (hw : WfT T) {s : KS} (hl : LenK T s) {pub : List Bool} (hp : ∀ q : Int, 1 ≤ q → bget pub q = true → ∃ h m, getT T h = some m ∧ m.kind = 7 ∧ Kn T S true h ∧ nth m.parts 0 = q) (hs : SoundK T S s) {h : Int} {n : Nd} (hg : getT T h = some n) : SoundK T S (stepK pub s h n) := by
  have hr := getT_range hg
  have h1 : SoundK T S (stepMade pub s h n) := by
    unfold stepMade
    split
    · exact setC_sound hl hs hr.1 hr.2 (made_sound hw hs hp hg (by assumption))
    · exact hs
  have hl1 := (stepMade_more hl pub hg).2
  unfold stepK stepOpen
  split
  · exact foldF_sound _ hl1 h1 fun p hp => ⟨(openedL_mem hw hg _ p hp).2, opened_sound hw h1 hg (by assumption) p hp⟩
  · exact h1
theorem passK_succ {T : List Nd} {pub : List Bool} {s : KS} {k : Nat} (hk : k < T.length) : passK T pub s (k + 1) = stepK pub (passK T pub s k) ((k : Int) + 1) T[k] := by
  show (match T[k]? with | some n => _ | none => _) = _
  rw [List.getElem?_eq_getElem hk]
theorem pubK_succ {T : List Nd} {F z : List Bool} {k : Nat} (hk : k < T.length) : pubK T F z (k + 1) = pubStep F (pubK T F z k) ((k : Int) + 1) T[k] := by
  show (match T[k]? with | some n => _ | none => _) = _
  rw [List.getElem?_eq_getElem hk]
theorem getT_at {T : List Nd} {k : Nat} (hk : k < T.length) : getT T ((k : Int) + 1) = some T[k] := by rw [getT_nat, List.getElem?_eq_getElem hk]
theorem passK_more {T : List Nd} (hw : WfT T) (pub : List Bool) {s : KS} (hl : LenK T s) : ∀ k, k ≤ T.length → MoreK s (passK T pub s k) ∧ LenK T (passK T pub s k)
  | 0, _ => ⟨.refl s, hl⟩
  | k + 1, hk => by
    obtain ⟨a, b⟩ := passK_more hw pub hl k (by omega)
    rw [passK_succ (by omega)]
    obtain ⟨c, d⟩ := stepK_more hw b pub (getT_at (by omega : k < T.length))
    exact ⟨a.trans c, d⟩
theorem passK_sound {T : List Nd} {S : Int → Prop} (hw : WfT T) {pub : List Bool} {s : KS} (hl : LenK T s) (hp : ∀ q : Int, 1 ≤ q → bget pub q = true → ∃ h m, getT T h = some m ∧ m.kind = 7 ∧ Kn T S true h ∧ nth m.parts 0 = q) (hs : SoundK T S s) : ∀ k, k ≤ T.length → SoundK T S (passK T pub s k)
  | 0, _ => hs
  | k + 1, hk => by
    rw [passK_succ (by omega)]
    exact stepK_sound hw (passK_more hw pub hl k (by omega)).2 hp (passK_sound hw hl hp hs k (by omega)) (getT_at (by omega : k < T.length))
/-- A pass that has turned nothing has turned nothing at each step. -/
theorem passK_same {T : List Nd} (hw : WfT T) (pub : List Bool) {s : KS} (hl : LenK T s) : ∀ k, k ≤ T.length → (passK T pub s k).ch = false → ∀ j, (hj : j < k) → (hT : j < T.length) → stepK pub s ((j : Int) + 1) T[j] = s
  | 0, _, _ => fun j hj => by omega
  | k + 1, hk, hc => by
    have m1 := passK_more hw pub hl k (by omega)
    have e := passK_succ (T := T) (pub := pub) (s := s) (k := k) (by omega)
    have m2 := stepK_more hw m1.2 pub (getT_at (by omega : k < T.length))
    have hc' : (passK T pub s k).ch = false := by
      cases h : (passK T pub s k).ch with
      | false => rfl
      | true => have := m2.1.ch h; rw [← e, hc] at this; cases this
    have hs := m1.1.same hc'
    intro j hj hT
    by_cases h : j < k
    · exact passK_same hw pub hl k (by omega) hc' j h hT
    · obtain rfl : j = k := by omega
      have := (m1.1.trans m2.1).same (by rw [← e]; exact hc)
      rw [hs] at this
      exact this
/-- What a pass that turned nothing says: the sets are closed. -/
theorem pass_closed {T : List Nd} {S : Int → Prop} (hw : WfT T) {F C : List Bool} (hl : LenK T ⟨F, C, false⟩) (hb : ∀ h n, getT T h = some n → S h → bget F h = true) (hc : (onePass T F C).ch = false) :
    ClosedK T S (fun h => 1 ≤ h ∧ bget F h = true) (fun h => 1 ≤ h ∧ bget C h = true) := by
  have hall := passK_same hw (pubL T F) hl T.length (Nat.le_refl _) hc
  obtain ⟨-, hpub⟩ := pubL_spec hw F
  have step : ∀ (h : Int) (n : Nd), getT T h = some n → stepK (pubL T F) ⟨F, C, false⟩ h n = ⟨F, C, false⟩ := fun h n hg => by
    have hr := getT_range hg
    have e : h = (((h - 1).toNat : Nat) : Int) + 1 := by omega
    have hT : (h - 1).toNat < T.length := by omega
    have := hall (h - 1).toNat hT hT
    rw [← e] at this
    have hg' := getT_at hT
    rw [← e, hg] at hg'
    cases hg'
    exact this
  have both : ∀ (h : Int) (n : Nd), getT T h = some n → (madeB F C (pubL T F) h n = true → bget C h = true) ∧ (bget F h = true → ∀ p ∈ openedL C n, bget F p = true) := fun h n hg => by
    have hr := getT_range hg
    have e := step h n hg
    have m1 := stepMade_more hl (pubL T F) hg
    have m2 := stepOpen_more hw m1.2 hg
    have hmid : stepMade (pubL T F) ⟨F, C, false⟩ h n = ⟨F, C, false⟩ := by
      refine m1.1.same ?_
      cases hx : (stepMade (pubL T F) ⟨F, C, false⟩ h n).ch with
      | false => rfl
      | true =>
        have := m2.1.ch hx
        have e' : stepOpen (stepMade (pubL T F) ⟨F, C, false⟩ h n) h n = ⟨F, C, false⟩ := e
        rw [e'] at this; cases this
    refine ⟨fun hm => ?_, fun hf p hp => ?_⟩
    · unfold stepMade at hmid
      rw [if_pos hm] at hmid
      have := (setC_more hl hr.1 hr.2).2.2
      rw [hmid] at this
      exact this
    · have e' : stepOpen (stepMade (pubL T F) ⟨F, C, false⟩ h n) h n = ⟨F, C, false⟩ := e
      rw [hmid] at e'
      unfold stepOpen at e'
      rw [if_pos hf] at e'
      have := (foldF_more (openedL C n) hl fun p hp => (openedL_mem hw hg C p hp).2).2.2.1 p hp
      have e2 : (openedL C n).foldl setF ⟨F, C, false⟩ = ⟨F, C, false⟩ := e'
      rw [e2] at this
      exact this
  have rng : ∀ (h : Int) (n : Nd) (p : Int), getT T h = some n → p ∈ n.parts → 1 ≤ p := fun h n p hg hp => ((hw.get hg).range p hp).1
  refine ⟨fun h n a b => ⟨(getT_range a).1, hb h n a b⟩, fun h n p a b c d => ⟨rng h n p a c, ?_⟩, fun h n p a b c d => ⟨rng h n p a (List.mem_of_mem_drop c), ?_⟩, fun h n p a b c d e => ⟨rng h n p a (List.mem_of_mem_drop c), ?_⟩, fun h a => ⟨a.1, ?_⟩, fun h n a b => ⟨(getT_range a).1, ?_⟩,
    fun h n a b c d => ⟨(getT_range a).1, ?_⟩, fun h n q m a b c d e f g => ⟨(getT_range a).1, ?_⟩, fun h n q m a b c d e f g => ⟨(getT_range a).1, ?_⟩, fun h n a b c d => ⟨(getT_range a).1, ?_⟩⟩
  · exact (both h n a).2 d.2 p (by unfold openedL; rw [if_pos b]; exact c)
  · exact (both h n a).2 d.2 p (by unfold openedL; rw [if_neg (by omega), if_pos b]; exact c)
  · exact (both h n a).2 d.2 p (by unfold openedL; rw [if_neg (by omega), if_neg (by omega), if_pos b, if_pos e.2]; exact c)
  · cases hg : getT T h with
    | none =>
      by_cases hr : 1 ≤ h ∧ h ≤ T.length
      · obtain ⟨n, hn⟩ := getT_some hr.1 hr.2
        rw [hg] at hn; cases hn
      · have : F.length ≤ h.toNat := by have := hl.F; simp only at this; omega
        have h2 := a.2
        unfold bget at h2
        rw [List.getD_eq_getElem?_getD, List.getElem?_eq_none this] at h2
        cases h2
    | some n => exact (both h n hg).1 (by unfold madeB; rw [if_pos (.inl a.2)])
  · exact (both h n a).1 (by unfold madeB; rw [if_pos (.inr b)])
  · refine (both h n a).1 ?_
    unfold madeB
    split
    · rfl
    · simp [b, c.2, d.2]
  · refine (both h n a).1 ?_
    have hl8 := ((hw.get a).k8 b).1
    have r1 := nth_range hw a (i := 1) (by omega)
    have hp := (hpub _ r1.1).2 ⟨q, m, d, e, g.2, f⟩
    unfold madeB
    split
    · rfl
    · simp [b, c.2, hp]
  · refine (both h n a).1 ?_
    have hl8 := ((hw.get a).k8 b).1
    have r0 := nth_range hw a (i := 0) (by omega)
    have hp := (hpub _ r0.1).2 ⟨q, m, d, e, g.2, f⟩
    unfold madeB
    split
    · rfl
    · simp [b, c.2, hp]
  · refine (both h n a).1 ?_
    unfold madeB
    split
    · rfl
    · exact List.all_eq_true.2 fun p hp => (d p hp).2
/-- What the sets say when nothing more comes. -/
structure DoneK (T : List Nd) (S : Int → Prop) (F C : List Bool) : Prop where
  len : LenK T ⟨F, C, false⟩
  fol : ∀ h, 1 ≤ h → (bget F h = true ↔ Kn T S true h)
  can : ∀ h, 1 ≤ h → (bget C h = true ↔ Kn T S false h)
theorem done_of {T : List Nd} {S : Int → Prop} (hw : WfT T) {F C : List Bool} (hl : LenK T ⟨F, C, false⟩) (hs : SoundK T S ⟨F, C, false⟩) (hk : ClosedK T S (fun h => 1 ≤ h ∧ bget F h = true) (fun h => 1 ≤ h ∧ bget C h = true)) : DoneK T S F C :=
  ⟨hl, fun h h1 => ⟨hs.1 h h1, fun k => (k.fle hk).2⟩, fun h h1 => ⟨hs.2 h h1, fun k => (k.cle hk).2⟩⟩
theorem onePass_sound {T : List Nd} {S : Int → Prop} (hw : WfT T) {F C : List Bool} (hl : LenK T ⟨F, C, false⟩) (hs : SoundK T S ⟨F, C, false⟩) : SoundK T S (onePass T F C) ∧ LenK T (onePass T F C) ∧ MoreK ⟨F, C, false⟩ (onePass T F C) := by
  obtain ⟨-, hpub⟩ := pubL_spec hw F
  have m := passK_more hw (pubL T F) hl T.length (Nat.le_refl _)
  refine ⟨passK_sound hw hl (fun q hq hb => ?_) hs T.length (Nat.le_refl _), m.2, m.1⟩
  obtain ⟨h, n, a, b, c, d⟩ := (hpub q hq).1 hb
  exact ⟨h, n, a, b, hs.1 h (getT_range a).1 c, d⟩
/-- The pass behind which nothing changes. -/
theorem onePass_done {T : List Nd} {S : Int → Prop} (hw : WfT T) {F C : List Bool} (hl : LenK T ⟨F, C, false⟩) (hs : SoundK T S ⟨F, C, false⟩) (hb : ∀ h n, getT T h = some n → S h → bget F h = true) (hc : (onePass T F C).ch = false) : DoneK T S (onePass T F C).F (onePass T F C).C := by
  have e := (onePass_sound hw hl hs).2.2.same hc
  rw [e]
  exact done_of hw hl hs (pass_closed hw hl hb hc)
end Go.Proofs.Ytomopjpfdmpgpaa
