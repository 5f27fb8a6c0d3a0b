/- Plain: a pass over all terms is sound; where it turns nothing its sets are the least ones (layer 3). No condition. -/
import Derived.Test.YtmaedahleenlgaaPureKnow
set_option linter.unusedVariables false
set_option linter.unusedSimpArgs false
namespace Go.Proofs.Ytmaedahleenlgaa
open Go Go.RowKit

theorem openedL_mem {T : List Nd} (hw : WfT T) {h : Int} {n : Nd} (hg : getT T h = some n) (C : List Bool) : ∀ p ∈ openedL C n, p ∈ n.parts ∧ 1 ≤ p ∧ p ≤ T.length := by
  intro p hp
  have hm : p ∈ n.parts := by
    unfold openedL at hp
    split at hp
    · exact hp
    · split at hp
      · exact List.mem_of_mem_drop hp
      · split at hp
        · split at hp
          · exact List.mem_of_mem_drop hp
          · simp at hp
        · simp at hp
  have := (hw.get hg).range p hm
  have := getT_range hg
  exact ⟨hm, by omega, by omega⟩
theorem nth_range {T : List Nd} (hw : WfT T) {h : Int} {n : Nd} (hg : getT T h = some n) {i : Nat} (hi : i < n.parts.length) : 1 ≤ nth n.parts i ∧ nth n.parts i ≤ T.length := by
  have := (hw.get hg).range _ (nth_mem hi)
  have := getT_range hg
  omega
theorem opened_sound {T : List Nd} {S : Int → Prop} (hw : WfT T) {s : KS} (hs : SoundK T S s) {h : Int} {n : Nd} (hg : getT T h = some n) (hf : bget s.F h = true) : ∀ p ∈ openedL s.C n, Kn T S true p := by
  intro p hp
  have hk := hs.1 h (getT_range hg).1 hf
  unfold openedL at hp
  split at hp
  · exact .row hg (by assumption) hp hk
  · split at hp
    · exact .signed hg (by assumption) hp hk
    · split at hp
      · rename_i k10
        split at hp
        · rename_i hc
          have hl := ((hw.get hg).k6 (.inr k10)).1
          exact .sealed hg k10 hp hk (hs.2 _ (nth_range hw hg (by omega)).1 hc)
        · simp at hp
      · simp at hp
theorem made_sound {T : List Nd} {S : Int → Prop} (hw : WfT T) {s : KS} {pub : List Bool} (hs : SoundK T S s) (hp : ∀ q : Int, 1 ≤ q → bget pub q = true → ∃ h m, getT T h = some m ∧ m.kind = 7 ∧ Kn T S true h ∧ nth m.parts 0 = q) {h : Int} {n : Nd} (hg : getT T h = some n) (hm : madeB s.F s.C pub h n = true) : Kn T S false h := by
  have h1 := (getT_range hg).1
  unfold madeB at hm
  split at hm
  · rename_i k
    rcases k with k | k
    · exact .fol (hs.1 h h1 k)
    · exact .text hg k
  · split at hm
    · cases hm
    · rename_i k2
      split at hm
      · rename_i k8
        have hl := ((hw.get hg).k8 k8).1
        have r0 := nth_range hw hg (i := 0) (by omega)
        have r1 := nth_range hw hg (i := 1) (by omega)
        simp only [Bool.or_eq_true, Bool.and_eq_true] at hm
        rcases hm with ⟨a, b | b⟩ | ⟨a, b⟩
        · exact .both hg k8 (hs.2 _ r0.1 a) (hs.2 _ r1.1 b)
        · obtain ⟨q, m, e1, e2, e3, e4⟩ := hp _ r1.1 b
          exact .left hg k8 (hs.2 _ r0.1 a) e1 e2 e4 e3
        · obtain ⟨q, m, e1, e2, e3, e4⟩ := hp _ r0.1 b
          exact .right hg k8 (hs.2 _ r1.1 a) e1 e2 e4 e3
      · rename_i k8
        refine .made hg k2 k8 fun p hpp => ?_
        have := List.all_eq_true.1 hm p hpp
        have r := (hw.get hg).range p hpp
        exact hs.2 p r.1 this
theorem SoundK.mono {T : List Nd} {S S' : Int → Prop} (hS : ∀ h, S h → S' h) {s : KS} (h : SoundK T S s) : SoundK T S' s := ⟨fun x a b => (h.1 x a b).mono hS, fun x a b => (h.2 x a b).mono hS⟩
theorem stepMade_more {T : List Nd} {s : KS} (hl : LenK T s) (pub : List Bool) {h : Int} {n : Nd} (hg : getT T h = some n) : MoreK s (stepMade pub s h n) ∧ LenK T (stepMade pub s h n) := by
  have hr := getT_range hg
  unfold stepMade
  split
  · obtain ⟨a, b, _⟩ := setC_more hl hr.1 hr.2; exact ⟨a, b⟩
  · exact ⟨.refl s, hl⟩
theorem stepOpen_more {T : List Nd} (hw : WfT T) {s : KS} (hl : LenK T s) {h : Int} {n : Nd} (hg : getT T h = some n) : MoreK s (stepOpen s h n) ∧ LenK T (stepOpen s h n) := by
  unfold stepOpen
  split
  · obtain ⟨a, b, _⟩ := foldF_more (openedL s.C n) hl fun p hp => (openedL_mem hw hg s.C p hp).2; exact ⟨a, b⟩
  · exact ⟨.refl s, hl⟩
theorem stepK_more {T : List Nd} (hw : WfT T) {s : KS} (hl : LenK T s) (pub : List Bool) {h : Int} {n : Nd} (hg : getT T h = some n) : MoreK s (stepK pub s h n) ∧ LenK T (stepK pub s h n) := by
  obtain ⟨a, b⟩ := stepMade_more hl pub hg
  obtain ⟨c, d⟩ := stepOpen_more hw b hg
  exact ⟨a.trans c, d⟩
theorem stepK_sound {T : List Nd} {S : Int → Prop} (hw : WfT T) {s : KS} (hl : LenK T s) {pub : List Bool} (hp : ∀ q : Int, 1 ≤ q → bget pub q = true → ∃ h m, getT T h = some m ∧ m.kind = 7 ∧ Kn T S true h ∧ nth m.parts 0 = q) (hs : SoundK T S s) {h : Int} {n : Nd} (hg : getT T h = some n) : SoundK T S (stepK pub s h n) := by
  have hr := getT_range hg
  have h1 : SoundK T S (stepMade pub s h n) := by
    unfold stepMade
    split
    · exact setC_sound hl hs hr.1 hr.2 (made_sound hw hs hp hg (by assumption))
    · exact hs
  have hl1 := (stepMade_more hl pub hg).2
  unfold stepK stepOpen
  split
  · exact foldF_sound _ hl1 h1 fun p hp => ⟨(openedL_mem hw hg _ p hp).2, opened_sound hw h1 hg (by assumption) p hp⟩
  · exact h1
theorem passK_succ {T : List Nd} {pub : List Bool} {s : KS} {k : Nat} (hk : k < T.length) : passK T pub s (k + 1) = stepK pub (passK T pub s k) ((k : Int) + 1) T[k] := by
  show (match T[k]? with | some n => _ | none => _) = _
  rw [List.getElem?_eq_getElem hk]
theorem pubK_succ {T : List Nd} {F z : List Bool} {k : Nat} (hk : k < T.length) : pubK T F z (k + 1) = pubStep F (pubK T F z k) ((k : Int) + 1) T[k] := by
  show (match T[k]? with | some n => _ | none => _) = _
  rw [List.getElem?_eq_getElem hk]
theorem getT_at {T : List Nd} {k : Nat} (hk : k < T.length) : getT T ((k : Int) + 1) = some T[k] := by rw [getT_nat, List.getElem?_eq_getElem hk]
theorem passK_more {T : List Nd} (hw : WfT T) (pub : List Bool) {s : KS} (hl : LenK T s) : ∀ k, k ≤ T.length → MoreK s (passK T pub s k) ∧ LenK T (passK T pub s k)
  | 0, _ => ⟨.refl s, hl⟩
  | k + 1, hk => by
    obtain ⟨a, b⟩ := passK_more hw pub hl k (by omega)
    rw [passK_succ (by omega)]
    obtain ⟨c, d⟩ := stepK_more hw b pub (getT_at (by omega : k < T.length))
    exact ⟨a.trans c, d⟩
theorem passK_sound {T : List Nd} {S : Int → Prop} (hw : WfT T) {pub : List Bool} {s : KS} (hl : LenK T s) (hp : ∀ q : Int, 1 ≤ q → bget pub q = true → ∃ h m, getT T h = some m ∧ m.kind = 7 ∧ Kn T S true h ∧ nth m.parts 0 = q) (hs : SoundK T S s) : ∀ k, k ≤ T.length → SoundK T S (passK T pub s k)
  | 0, _ => hs
  | k + 1, hk => by
    rw [passK_succ (by omega)]
    exact stepK_sound hw (passK_more hw pub hl k (by omega)).2 hp (passK_sound hw hl hp hs k (by omega)) (getT_at (by omega : k < T.length))
/-- A pass that has turned nothing has turned nothing at each step. -/
theorem passK_same {T : List Nd} (hw : WfT T) (pub : List Bool) {s : KS} (hl : LenK T s) : ∀ k, k ≤ T.length → (passK T pub s k).ch = false → ∀ j, (hj : j < k) → (hT : j < T.length) → stepK pub s ((j : Int) + 1) T[j] = s
  | 0, _, _ => fun j hj => by omega
  | k + 1, hk, hc => by
    have m1 := passK_more hw pub hl k (by omega)
    have e := passK_succ (T := T) (pub := pub) (s := s) (k := k) (by omega)
    have m2 := stepK_more hw m1.2 pub (getT_at (by omega : k < T.length))
    have hc' : (passK T pub s k).ch = false := by
      cases h : (passK T pub s k).ch with
      | false => rfl
      | true => have := m2.1.ch h; rw [← e, hc] at this; cases this
    have hs := m1.1.same hc'
    intro j hj hT
    by_cases h : j < k
    · exact passK_same hw pub hl k (by omega) hc' j h hT
    · obtain rfl : j = k := by omega
      have := (m1.1.trans m2.1).same (by rw [← e]; exact hc)
      rw [hs] at this
      exact this
/-- What a pass that turned nothing says: the sets are closed. -/
theorem pass_closed {T : List Nd} {S : Int → Prop} (hw : WfT T) {F C : List Bool} (hl : LenK T ⟨F, C, false⟩) (hb : ∀ h n, getT T h = some n → S h → bget F h = true) (hc : (onePass T F C).ch = false) :
    ClosedK T S (fun h => 1 ≤ h ∧ bget F h = true) (fun h => 1 ≤ h ∧ bget C h = true) := by
  have hall := passK_same hw (pubL T F) hl T.length (Nat.le_refl _) hc
  obtain ⟨-, hpub⟩ := pubL_spec hw F
  have step : ∀ (h : Int) (n : Nd), getT T h = some n → stepK (pubL T F) ⟨F, C, false⟩ h n = ⟨F, C, false⟩ := fun h n hg => by
    have hr := getT_range hg
    have e : h = (((h - 1).toNat : Nat) : Int) + 1 := by omega
    have hT : (h - 1).toNat < T.length := by omega
    have := hall (h - 1).toNat hT hT
    rw [← e] at this
    have hg' := getT_at hT
    rw [← e, hg] at hg'
    cases hg'
    exact this
  have both : ∀ (h : Int) (n : Nd), getT T h = some n → (madeB F C (pubL T F) h n = true → bget C h = true) ∧ (bget F h = true → ∀ p ∈ openedL C n, bget F p = true) := fun h n hg => by
    have hr := getT_range hg
    have e := step h n hg
    have m1 := stepMade_more hl (pubL T F) hg
    have m2 := stepOpen_more hw m1.2 hg
    have hmid : stepMade (pubL T F) ⟨F, C, false⟩ h n = ⟨F, C, false⟩ := by
      refine m1.1.same ?_
      cases hx : (stepMade (pubL T F) ⟨F, C, false⟩ h n).ch with
      | false => rfl
      | true =>
        have := m2.1.ch hx
        have e' : stepOpen (stepMade (pubL T F) ⟨F, C, false⟩ h n) h n = ⟨F, C, false⟩ := e
        rw [e'] at this; cases this
    refine ⟨fun hm => ?_, fun hf p hp => ?_⟩
    · unfold stepMade at hmid
      rw [if_pos hm] at hmid
      have := (setC_more hl hr.1 hr.2).2.2
      rw [hmid] at this
      exact this
    · have e' : stepOpen (stepMade (pubL T F) ⟨F, C, false⟩ h n) h n = ⟨F, C, false⟩ := e
      rw [hmid] at e'
      unfold stepOpen at e'
      rw [if_pos hf] at e'
      have := (foldF_more (openedL C n) hl fun p hp => (openedL_mem hw hg C p hp).2).2.2.1 p hp
      have e2 : (openedL C n).foldl setF ⟨F, C, false⟩ = ⟨F, C, false⟩ := e'
      rw [e2] at this
      exact this
  have rng : ∀ (h : Int) (n : Nd) (p : Int), getT T h = some n → p ∈ n.parts → 1 ≤ p := fun h n p hg hp => ((hw.get hg).range p hp).1
  refine ⟨fun h n a b => ⟨(getT_range a).1, hb h n a b⟩, fun h n p a b c d => ⟨rng h n p a c, ?_⟩, fun h n p a b c d => ⟨rng h n p a (List.mem_of_mem_drop c), ?_⟩, fun h n p a b c d e => ⟨rng h n p a (List.mem_of_mem_drop c), ?_⟩, fun h a => ⟨a.1, ?_⟩, fun h n a b => ⟨(getT_range a).1, ?_⟩,
    fun h n a b c d => ⟨(getT_range a).1, ?_⟩, fun h n q m a b c d e f g => ⟨(getT_range a).1, ?_⟩, fun h n q m a b c d e f g => ⟨(getT_range a).1, ?_⟩, fun h n a b c d => ⟨(getT_range a).1, ?_⟩⟩
  · exact (both h n a).2 d.2 p (by unfold openedL; rw [if_pos b]; exact c)
  · exact (both h n a).2 d.2 p (by unfold openedL; rw [if_neg (by omega), if_pos b]; exact c)
  · exact (both h n a).2 d.2 p (by unfold openedL; rw [if_neg (by omega), if_neg (by omega), if_pos b, if_pos e.2]; exact c)
  · cases hg : getT T h with
    | none =>
      by_cases hr : 1 ≤ h ∧ h ≤ T.length
      · obtain ⟨n, hn⟩ := getT_some hr.1 hr.2
        rw [hg] at hn; cases hn
      · have : F.length ≤ h.toNat := by have := hl.F; simp only at this; omega
        have h2 := a.2
        unfold bget at h2
        rw [List.getD_eq_getElem?_getD, List.getElem?_eq_none this] at h2
        cases h2
    | some n => exact (both h n hg).1 (by unfold madeB; rw [if_pos (.inl a.2)])
  · exact (both h n a).1 (by unfold madeB; rw [if_pos (.inr b)])
  · refine (both h n a).1 ?_
    unfold madeB
    split
    · rfl
    · simp [b, c.2, d.2]
  · refine (both h n a).1 ?_
    have hl8 := ((hw.get a).k8 b).1
    have r1 := nth_range hw a (i := 1) (by omega)
    have hp := (hpub _ r1.1).2 ⟨q, m, d, e, g.2, f⟩
    unfold madeB
    split
    · rfl
    · simp [b, c.2, hp]
  · refine (both h n a).1 ?_
    have hl8 := ((hw.get a).k8 b).1
    have r0 := nth_range hw a (i := 0) (by omega)
    have hp := (hpub _ r0.1).2 ⟨q, m, d, e, g.2, f⟩
    unfold madeB
    split
    · rfl
    · simp [b, c.2, hp]
  · refine (both h n a).1 ?_
    unfold madeB
    split
    · rfl
    · exact List.all_eq_true.2 fun p hp => (d p hp).2
/-- What the sets say when nothing more comes. -/
structure DoneK (T : List Nd) (S : Int → Prop) (F C : List Bool) : Prop where
  len : LenK T ⟨F, C, false⟩
  fol : ∀ h, 1 ≤ h → (bget F h = true ↔ Kn T S true h)
  can : ∀ h, 1 ≤ h → (bget C h = true ↔ Kn T S false h)
theorem done_of {T : List Nd} {S : Int → Prop} (hw : WfT T) {F C : List Bool} (hl : LenK T ⟨F, C, false⟩) (hs : SoundK T S ⟨F, C, false⟩) (hk : ClosedK T S (fun h => 1 ≤ h ∧ bget F h = true) (fun h => 1 ≤ h ∧ bget C h = true)) : DoneK T S F C :=
  ⟨hl, fun h h1 => ⟨hs.1 h h1, fun k => (k.fle hk).2⟩, fun h h1 => ⟨hs.2 h h1, fun k => (k.cle hk).2⟩⟩
theorem onePass_sound {T : List Nd} {S : Int → Prop} (hw : WfT T) {F C : List Bool} (hl : LenK T ⟨F, C, false⟩) (hs : SoundK T S ⟨F, C, false⟩) : SoundK T S (onePass T F C) ∧ LenK T (onePass T F C) ∧ MoreK ⟨F, C, false⟩ (onePass T F C) := by
  obtain ⟨-, hpub⟩ := pubL_spec hw F
  have m := passK_more hw (pubL T F) hl T.length (Nat.le_refl _)
  refine ⟨passK_sound hw hl (fun q hq hb => ?_) hs T.length (Nat.le_refl _), m.2, m.1⟩
  obtain ⟨h, n, a, b, c, d⟩ := (hpub q hq).1 hb
  exact ⟨h, n, a, b, hs.1 h (getT_range a).1 c, d⟩
/-- The pass behind which nothing changes. -/
theorem onePass_done {T : List Nd} {S : Int → Prop} (hw : WfT T) {F C : List Bool} (hl : LenK T ⟨F, C, false⟩) (hs : SoundK T S ⟨F, C, false⟩) (hb : ∀ h n, getT T h = some n → S h → bget F h = true) (hc : (onePass T F C).ch = false) : DoneK T S (onePass T F C).F (onePass T F C).C := by
  have e := (onePass_sound hw hl hs).2.2.same hc
  rw [e]
  exact done_of hw hl hs (pass_closed hw hl hb hc)
end Go.Proofs.Ytmaedahleenlgaa
