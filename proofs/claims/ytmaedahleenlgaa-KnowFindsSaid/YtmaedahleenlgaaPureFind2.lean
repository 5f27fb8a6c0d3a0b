/- Own texts, one behind the other. Each bears its own remark. -/
import Derived.Test.YtmaedahleenlgaaPureAgain
import Derived.Test.YtmaedahleenlgaaKnowOk
/- Plain: the reference's passes. No condition. -/
set_option linter.unusedVariables false
set_option linter.unusedSimpArgs false
namespace Go.Proofs.Ytmaedahleenlgaa
open Go Go.RowKit

/-- A pass of the reference: who has a public key is asked anew at each step. -/
def passR (T : List Nd) (s : KS) : Nat → KS
  | 0 => s
  | k + 1 => match T[k]? with
    | some n => stepK (pubL T (passR T s k).F) (passR T s k) ((k : Int) + 1) n
    | none => passR T s k
theorem passR_succ {T : List Nd} {s : KS} {k : Nat} (hk : k < T.length) : passR T s (k + 1) = stepK (pubL T (passR T s k).F) (passR T s k) ((k : Int) + 1) T[k] := by
  show (match T[k]? with | some n => _ | none => _) = _
  rw [List.getElem?_eq_getElem hk]
theorem passR_more {T : List Nd} (hw : WfT T) {s : KS} (hl : LenK T s) : ∀ k, k ≤ T.length → MoreK s (passR T s k) ∧ LenK T (passR T s k)
  | 0, _ => ⟨.refl _, hl⟩
  | k + 1, hk => by
    have ih := passR_more hw hl k (by omega)
    rw [passR_succ (by omega)]
    have h := stepK_more hw ih.2 (pubL T (passR T s k).F) (getT_at (by omega : k < T.length))
    exact ⟨ih.1.trans h.1, h.2⟩
theorem passR_sound {T : List Nd} {S : Int → Prop} (hw : WfT T) {s : KS} (hl : LenK T s) (hs : SoundK T S s) : ∀ k, k ≤ T.length → SoundK T S (passR T s k)
  | 0, _ => hs
  | k + 1, hk => by
    have ih := passR_sound hw hl hs k (by omega)
    have hm := passR_more hw hl k (by omega)
    rw [passR_succ (by omega)]
    refine stepK_sound hw hm.2 (fun q hq hb => ?_) ih (getT_at (by omega : k < T.length))
    obtain ⟨h, n, a, b, c, d⟩ := ((pubL_spec hw (passR T s k).F).2 q hq).1 hb
    exact ⟨h, n, a, b, ih.1 h (getT_range a).1 c, d⟩
theorem passR_still {T : List Nd} (hw : WfT T) {F C : List Bool} (hl : LenK T ⟨F, C, false⟩) (hc : (passR T ⟨F, C, false⟩ T.length).ch = false) : ∀ k, k ≤ T.length → passR T ⟨F, C, false⟩ k = ⟨F, C, false⟩ := by
  intro k hk
  have key : ∀ j, k + j ≤ T.length → (passR T ⟨F, C, false⟩ (k + j)).ch = false → (passR T ⟨F, C, false⟩ k).ch = false := by
    intro j
    induction j with
    | zero => exact fun _ h => h
    | succ j ih =>
      intro h1 h2
      refine ih (by omega) ?_
      have hm := passR_more hw hl (k + j) (by omega)
      rw [show k + (j + 1) = k + j + 1 from by omega, passR_succ (by omega)] at h2
      have hs := (stepK_more hw hm.2 (pubL T (passR T ⟨F, C, false⟩ (k + j)).F) (getT_at (k := k + j) (by omega))).1
      cases e : (passR T ⟨F, C, false⟩ (k + j)).ch with
      | false => rfl
      | true => have := hs.ch e; rw [h2] at this; cases this
  exact (passR_more hw hl k hk).1.same (key (T.length - k) (by omega) (by rw [show k + (T.length - k) = T.length from by omega]; exact hc))
theorem passR_pass {T : List Nd} (hw : WfT T) {F C : List Bool} (hl : LenK T ⟨F, C, false⟩) (hc : (passR T ⟨F, C, false⟩ T.length).ch = false) : ∀ k, k ≤ T.length → passK T (pubL T F) ⟨F, C, false⟩ k = ⟨F, C, false⟩
  | 0, _ => rfl
  | k + 1, hk => by
    rw [passK_succ (by omega), passR_pass hw hl hc k (by omega)]
    have h1 := passR_still hw hl hc (k + 1) hk
    rw [passR_succ (by omega), passR_still hw hl hc k (by omega)] at h1
    exact h1
theorem passR_done {T : List Nd} {S : Int → Prop} (hw : WfT T) {F C : List Bool} (hl : LenK T ⟨F, C, false⟩) (hs : SoundK T S ⟨F, C, false⟩) (hb : ∀ h n, getT T h = some n → S h → bget F h = true) (hc : (passR T ⟨F, C, false⟩ T.length).ch = false) : DoneK T S F C := by
  have h1 : onePass T F C = ⟨F, C, false⟩ := passR_pass hw hl hc T.length (Nat.le_refl _)
  have := onePass_done hw hl hs hb (by rw [h1])
  rw [h1] at this
  exact this
/-- The first public key of a secret. -/
def pubOf (T : List Nd) (y : Int) : Int := match T.findIdx? (fun n => decide (n.kind = 7) && decide (nth n.parts 0 = y)) with | some i => (i : Int) + 1 | none => 0
theorem knownB_pub {T : List Nd} (hw : WfT T) (F : List Bool) {y : Int} (hy : 1 ≤ y) : (decide (0 < pubOf T y) && bget F (pubOf T y)) = bget (pubL T F) y := by
  rw [Bool.eq_iff_iff, (pubL_spec hw F).2 y hy, Bool.and_eq_true, decide_eq_true_eq]
  unfold pubOf
  cases e : T.findIdx? (fun n => decide (n.kind = 7) && decide (nth n.parts 0 = y)) with
  | none =>
    refine ⟨fun h => (by simp at h), ?_⟩
    rintro ⟨h, m, hg, hk, -, hn⟩
    have h1 := getT_range hg
    obtain ⟨j, rfl⟩ : ∃ j : Nat, h = (j : Int) + 1 := ⟨(h - 1).toNat, by omega⟩
    rw [getT_nat] at hg
    have := List.findIdx?_eq_none_iff.1 e m (List.mem_of_getElem? hg)
    simp [hk, hn] at this
  | some i =>
    obtain ⟨hi, hp, -⟩ := List.findIdx?_eq_some_iff_getElem.1 e
    simp only [Bool.and_eq_true, decide_eq_true_eq] at hp
    constructor
    · rintro ⟨-, hb⟩
      exact ⟨(i : Int) + 1, T[i], getT_at hi, hp.1, hb, hp.2⟩
    · rintro ⟨h, m, hg, hk, hb, hn⟩
      have h1 := getT_range hg
      have g1 := hw.get hg
      have g2 := hw.get (getT_at hi)
      obtain ⟨j, rfl⟩ : ∃ j : Nat, h = (j : Int) + 1 := ⟨(h - 1).toNat, by omega⟩
      rw [getT_nat] at hg
      have l1 := (g1.k7 hk).1
      have l2 := (g2.k7 hp.1).1
      have t1 := g1.k3 (by omega)
      have t2 := g2.k3 (by rw [hp.1]; decide)
      have em : m = T[i] := by
        have e1 : m.parts = T[i].parts := by
          apply List.ext_getElem (by omega)
          intro q q1 q2
          obtain rfl : q = 0 := by omega
          have a1 : nth m.parts 0 = m.parts[0] := by simp [nth, q1]
          have a2 : nth T[i].parts 0 = T[i].parts[0] := by simp [nth, q2]
          rw [← a1, ← a2, hn, hp.2]
        obtain ⟨k1, x1, p1⟩ := m
        have : T[i] = ⟨T[i].kind, T[i].text, T[i].parts⟩ := rfl
        rw [this]
        simp only at e1 hk t1
        rw [e1, hk, t1, t2, hp.1]
      have hij := hw.uniq i j m (by rw [List.getElem?_eq_getElem hi, em]) hg (by omega)
      subst hij
      exact ⟨(show (0 : Int) < (i : Int) + 1 by omega), hb⟩
end Go.Proofs.Ytmaedahleenlgaa

/- Plain: the reference's steps, part by part. No condition. -/
set_option linter.unusedVariables false
set_option linter.unusedSimpArgs false
namespace Go.Proofs.Ytmaedahleenlgaa
open Go Go.RowKit

/-- Does a term that follows tell its part i? -/
def openI (C : List Bool) (n : Nd) (i : Nat) : Bool := decide (n.kind = 3) || (decide (n.kind = 9) && decide (i = 1)) || (decide (n.kind = 10) && decide (i = 2) && bget C (nth n.parts 0))
def openK (C : List Bool) (n : Nd) (k : Nat) : List Int := ((List.range k).filter (openI C n)).map (nth n.parts)
theorem openK_succ (C : List Bool) (n : Nd) (k : Nat) : openK C n (k + 1) = openK C n k ++ (if openI C n k then [nth n.parts k] else []) := by
  unfold openK
  rw [List.range_succ, List.filter_append, List.map_append]
  congr 1
  simp only [List.filter_cons, List.filter_nil]
  split <;> rfl
theorem map_nth_range (l : List Int) : (List.range l.length).map (nth l) = l := by
  apply List.ext_getElem (by simp)
  intro i h1 h2
  simp [nth, h2]
theorem openK_all {T : List Nd} {C : List Bool} {h : Int} {n : Nd} (hw : WfT T) (hg : getT T h = some n) : openK C n n.parts.length = openedL C n := by
  have hn := hw.get hg
  unfold openK openedL
  by_cases k3 : n.kind = 3
  · rw [if_pos k3, List.filter_eq_self.2 (fun i _ => by simp [openI, k3])]
    exact map_nth_range _
  rw [if_neg k3]
  by_cases k9 : n.kind = 9
  · rw [if_pos k9, (hn.k9 k9).1]
    have e : (List.range 2).filter (openI C n) = [1] := by simp [List.range_succ, openI, k9]
    rw [e]
    have hl := (hn.k9 k9).1
    match hp : n.parts, hl with
    | [a, b], _ => rfl
  rw [if_neg k9]
  by_cases k10 : n.kind = 10
  · have hl := (hn.k6 (.inr k10)).1
    rw [if_pos k10, hl]
    by_cases hc : bget C (nth n.parts 0) = true
    · rw [if_pos hc]
      have e : (List.range 3).filter (openI C n) = [2] := by simp [List.range_succ, openI, k10, hc]
      rw [e]
      match hp : n.parts, hl with
      | [a, b, c], _ => rfl
    · rw [if_neg hc]
      have e : (List.range 3).filter (openI C n) = [] := by simp [List.range_succ, openI, k10, hc]
      rw [e]; rfl
  · rw [if_neg k10, List.filter_eq_nil_iff.2 (fun i _ => by simp [openI, k3, k9, k10])]
    rfl
/-- The state within a round, behind k parts. -/
def partR (s : KS) (n : Nd) (k : Nat) : KS := (openK s.C n k).foldl setF s
theorem partR_zero (s : KS) (n : Nd) : partR s n 0 = s := rfl
theorem partR_succ (s : KS) (n : Nd) (k : Nat) : partR s n (k + 1) = if openI s.C n k then setF (partR s n k) (nth n.parts k) else partR s n k := by
  unfold partR
  rw [openK_succ, List.foldl_append]
  split <;> rfl
theorem foldF_C : ∀ (l : List Int) (s : KS), (l.foldl setF s).C = s.C
  | [], _ => rfl
  | p :: l, s => by
    rw [List.foldl_cons, foldF_C l]
    unfold setF; split <;> rfl
theorem foldF_len : ∀ (l : List Int) (s : KS), (l.foldl setF s).F.length = s.F.length
  | [], _ => rfl
  | p :: l, s => by
    rw [List.foldl_cons, foldF_len l]
    unfold setF; split
    · rfl
    · exact bset_length _ _
theorem partR_C (s : KS) (n : Nd) (k : Nat) : (partR s n k).C = s.C := foldF_C _ _
theorem partR_len (s : KS) (n : Nd) (k : Nat) : (partR s n k).F.length = s.F.length := foldF_len _ _
theorem stepOpen_part {T : List Nd} {s : KS} {h : Int} {n : Nd} (hw : WfT T) (hg : getT T h = some n) (hf : bget s.F h = true) : stepOpen s h n = partR s n n.parts.length := by
  unfold stepOpen partR
  rw [if_pos hf, openK_all hw hg]
theorem stepOpen_no {s : KS} {h : Int} {n : Nd} (hf : bget s.F h = false) : stepOpen s h n = s := by
  unfold stepOpen
  rw [if_neg (by rw [hf]; decide)]
theorem stepMade_had (pub : List Bool) {s : KS} {h : Int} (n : Nd) (hc : bget s.C h = true) : stepMade pub s h n = s := by
  unfold stepMade
  split
  · exact if_pos hc
  · rfl
theorem stepMade_no {pub : List Bool} {s : KS} {h : Int} {n : Nd} (hm : madeB s.F s.C pub h n = false) : stepMade pub s h n = s := by
  unfold stepMade
  rw [if_neg (by rw [hm]; decide)]
theorem stepMade_yes {pub : List Bool} {s : KS} {h : Int} {n : Nd} (hc : bget s.C h = false) (hm : madeB s.F s.C pub h n = true) : stepMade pub s h n = ⟨s.F, bset s.C h, true⟩ := by
  unfold stepMade
  rw [if_pos hm]
  exact if_neg (by rw [hc]; decide)
theorem setF_had {s : KS} {p : Int} (h : bget s.F p = true) : setF s p = s := if_pos h
theorem setF_new {s : KS} {p : Int} (h : bget s.F p = false) : setF s p = ⟨bset s.F p, s.C, true⟩ := if_neg (by rw [h]; decide)
theorem learnF_in {n : Nat} {F : List Bool} {x : Int} (h1 : 0 < x) (h2 : x ≤ n) : learnF n F x = bset F x := by
  unfold learnF learnB
  cases e : bget F x with
  | false => simp [h1, h2]
  | true => simp [bset_same F x e]
theorem learnF_out {n : Nat} {F : List Bool} {x : Int} (h : ¬ (0 < x ∧ x ≤ n)) : learnF n F x = F := by
  unfold learnF learnB
  rw [if_neg]
  simp
  intro a b; exact absurd ⟨a, b⟩ h
/-- The base, told to empty rows. -/
theorem base_ok {T : List Nd} (hw : WfT T) (l : List Int) : ∃ fr, MOk T (inT T l) (learnL T.length (List.replicate (T.length + 1) false) l) (List.replicate (T.length + 1) false) T.length fr := by
  have h := (MOk.nil hw).growL
  have e : growL [] T.length = List.replicate (T.length + 1) false := by simp [growL]
  rw [e] at h
  have h2 := h.learns l (by simp)
  exact ⟨_, h2.iff fun x => ⟨fun q => q.elim (fun f => f.elim) id, .inr⟩⟩
theorem learnL_take {n : Nat} {F : List Bool} {l : List Int} {k : Nat} (hk : k < l.length) : learnL n F (l.take (k + 1)) = learnF n (learnL n F (l.take k)) (nth l k) := by
  rw [take_nth_succ hk]
  unfold learnL
  rw [List.foldl_append]; rfl
theorem learnL_len' (n : Nat) (F : List Bool) (l : List Int) : (learnL n F l).length = F.length := learnL_len n l F
/-- The measure of the reference's passes. -/
theorem pass_cnt {T : List Nd} (hw : WfT T) {F C : List Bool} (hl : LenK T ⟨F, C, false⟩) : (passR T ⟨F, C, false⟩ T.length).ch = true → cntB F + cntB C < cntB (passR T ⟨F, C, false⟩ T.length).F + cntB (passR T ⟨F, C, false⟩ T.length).C :=
  fun h => ((passR_more hw hl T.length (Nat.le_refl _)).1).cnt h rfl
theorem bset_C0 {l : List Bool} {h : Int} (h1 : 1 ≤ h) : bget (bset l h) 0 = bget l 0 := by
  unfold bget bset
  have : h.toNat ≠ (0 : Int).toNat := by omega
  simp only [List.getD_eq_getElem?_getD]
  rw [List.getElem?_set_ne this]
theorem stepK_C0 {pub : List Bool} {s : KS} {h : Int} {n : Nd} (h1 : 1 ≤ h) : bget (stepK pub s h n).C 0 = bget s.C 0 := by
  have e1 : ∀ t : KS, (stepOpen t h n).C = t.C := fun t => by
    unfold stepOpen; split
    · exact foldF_C _ _
    · rfl
  unfold stepK
  rw [e1]
  unfold stepMade
  split
  · unfold setC
    split
    · rfl
    · exact bset_C0 h1
  · rfl
theorem passR_C0 {T : List Nd} {s : KS} : ∀ k, bget (passR T s k).C 0 = bget s.C 0
  | 0 => rfl
  | k + 1 => by
    by_cases hk : k < T.length
    · rw [passR_succ hk, stepK_C0 (by omega)]; exact passR_C0 k
    · have : passR T s (k + 1) = passR T s k := by
        show (match T[k]? with | some n => _ | none => _) = _
        rw [List.getElem?_eq_none (by omega)]
      rw [this]; exact passR_C0 k
end Go.Proofs.Ytmaedahleenlgaa
