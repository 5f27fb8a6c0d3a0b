/- Plain: what a mind's rows say between calls (layer 3). No condition. -/
import Derived.Test.YtomopjpfdmpgpaaKnow2
set_option linter.unusedVariables false
set_option linter.unusedSimpArgs false
namespace Go.Proofs.Ytomopjpfdmpgpaa
open Go Go.RowKit

structure MOk (T : List Nd) (S : Int → Prop) (F C : List Bool) (size : Nat) (fresh : Bool) : Prop where
  wf : WfT T
  len : F.length = C.length
  le : F.length ≤ T.length + 1
  rg : ∀ h, S h → 1 ≤ h ∧ h ≤ T.length
  sd : SoundK T S ⟨F, C, false⟩
  bs : ∀ h, S h → bget F h = true
  dn : fresh = true → T.length = size → DoneK T S F C
  sz : size ≤ T.length
theorem bget_nil (h : Int) : bget [] h = false := rfl
theorem MOk.nil {T : List Nd} (hw : WfT T) : MOk T (fun _ => False) [] [] 0 false :=
  ⟨hw, rfl, by simp, fun _ h => h.elim, ⟨fun h _ hb => (by rw [bget_nil] at hb; cases hb), fun h _ hb => (by rw [bget_nil] at hb; cases hb)⟩, fun _ h => h.elim, fun h => (by cases h), Nat.zero_le _⟩
theorem SoundK.grow {T T' : List Nd} {S : Int → Prop} {s : KS} (h : SoundK T S s) : SoundK (T ++ T') S s := ⟨fun x a b => (h.1 x a b).grow, fun x a b => (h.2 x a b).grow⟩
theorem MOk.grow {T : List Nd} (T' : List Nd) {S : Int → Prop} {F C : List Bool} {size : Nat} {fresh : Bool} (h : MOk T S F C size fresh) (hw : WfT (T ++ T')) : MOk (T ++ T') S F C size fresh := by
  have hs := h.sz
  refine ⟨hw, h.len, by have := h.le; rw [List.length_append]; omega, fun x q => by have := h.rg x q; rw [List.length_append]; omega, h.sd.grow, h.bs, fun a b => ?_, by rw [List.length_append]; omega⟩
  rw [List.length_append] at b
  have hT : T' = [] := List.eq_nil_of_length_eq_zero (by omega)
  subst hT
  rw [List.append_nil]
  exact h.dn a (by simpa using b)
theorem MOk.growL {T : List Nd} {S : Int → Prop} {F C : List Bool} {size : Nat} {fresh : Bool} (h : MOk T S F C size fresh) : MOk T S (Go.Proofs.Ytomopjpfdmpgpaa.growL F T.length) (Go.Proofs.Ytomopjpfdmpgpaa.growL C T.length) T.length (fresh && decide (T.length = size)) := by
  have h1 := h.le
  have h2 := h.len
  have l1 : (Go.Proofs.Ytomopjpfdmpgpaa.growL F T.length).length = T.length + 1 := growL_len h1
  have l2 : (Go.Proofs.Ytomopjpfdmpgpaa.growL C T.length).length = T.length + 1 := growL_len (by omega)
  refine ⟨h.wf, by rw [l1, l2], by rw [l1]; exact Nat.le_refl _, h.rg, ⟨fun x a b => h.sd.1 x a (by rw [← bget_growL F T.length]; exact b), fun x a b => h.sd.2 x a (by rw [← bget_growL C T.length]; exact b)⟩, fun x q => by rw [bget_growL]; exact h.bs x q, fun a b => ?_, Nat.le_refl _⟩
  simp only [Bool.and_eq_true, decide_eq_true_eq] at a
  have hd := h.dn a.1 a.2
  have hF : Go.Proofs.Ytomopjpfdmpgpaa.growL F T.length = F := by unfold Go.Proofs.Ytomopjpfdmpgpaa.growL; have : F.length = T.length + 1 := hd.len.F; rw [this]; simp
  have hC : Go.Proofs.Ytomopjpfdmpgpaa.growL C T.length = C := by unfold Go.Proofs.Ytomopjpfdmpgpaa.growL; have : C.length = T.length + 1 := hd.len.C; rw [this]; simp
  rw [hF, hC]
  exact hd
theorem MOk.iff {T : List Nd} {S S' : Int → Prop} {F C : List Bool} {size : Nat} {fresh : Bool} (h : MOk T S F C size fresh) (hS : ∀ x, S x ↔ S' x) : MOk T S' F C size fresh := by
  have : S = S' := funext fun x => propext (hS x)
  rw [← this]; exact h
/-- What already follows adds nothing. -/
theorem Kn.same {T : List Nd} {S S' : Int → Prop} (h1 : ∀ h, S h → S' h) (h2 : ∀ h, S' h → Kn T S true h) (b : Bool) (h : Int) : Kn T S' b h ↔ Kn T S b h := by
  constructor
  · intro k
    have c := kn_closed T S
    have c' : ClosedK T S' (Kn T S true) (Kn T S false) := { c with base := fun h n _ q => h2 h q }
    have := k.le c'
    cases b <;> simpa using this
  · exact fun k => k.mono h1
theorem DoneK.same {T : List Nd} {S S' : Int → Prop} {F C : List Bool} (h : DoneK T S F C) (h1 : ∀ h, S h → S' h) (h2 : ∀ h, S' h → Kn T S true h) : DoneK T S' F C :=
  ⟨h.len, fun x q => (h.fol x q).trans (Kn.same h1 h2 true x).symm, fun x q => (h.can x q).trans (Kn.same h1 h2 false x).symm⟩
/-- What Learn does of one. -/
def learnB (n : Nat) (F : List Bool) (h : Int) : Bool := decide (0 < h) && decide (h ≤ n) && !bget F h
def learnF (n : Nat) (F : List Bool) (h : Int) : List Bool := if learnB n F h then bset F h else F
theorem learnF_len (n : Nat) (F : List Bool) (h : Int) : (learnF n F h).length = F.length := by unfold learnF; split; exact bset_length F h; rfl
def inT (T : List Nd) (l : List Int) (h : Int) : Prop := h ∈ l ∧ 1 ≤ h ∧ h ≤ T.length
theorem getT_there {T : List Nd} {h : Int} (h1 : 1 ≤ h) (h2 : h ≤ T.length) : ∃ n, getT T h = some n := by
  obtain ⟨k, rfl⟩ : ∃ k : Nat, h = (k : Int) + 1 := ⟨(h - 1).toNat, by omega⟩
  exact ⟨T[k]'(by omega), by rw [getT_nat, List.getElem?_eq_getElem (by omega)]⟩
theorem MOk.learn {T : List Nd} {S : Int → Prop} {F C : List Bool} {fresh : Bool} (h : MOk T S F C T.length fresh) (hF : F.length = T.length + 1) (x : Int) : MOk T (fun q => S q ∨ inT T [x] q) (learnF T.length F x) C T.length (fresh && !learnB T.length F x) := by
  have hc := h.len
  by_cases hr : 1 ≤ x ∧ x ≤ T.length
  rotate_left
  · have hb : learnB T.length F x = false := by
      unfold learnB
      by_cases q : 0 < x
      · rw [decide_eq_false (show ¬ x ≤ (T.length : Int) by omega)]; simp
      · rw [decide_eq_false q]; simp
    unfold learnF
    rw [hb]
    simp only [Bool.not_false, Bool.and_true, Bool.false_eq_true, if_false]
    refine h.iff fun q => ⟨.inl, fun k => k.elim id fun k => ?_⟩
    unfold inT at k
    rw [List.mem_singleton] at k
    omega
  obtain ⟨nd, hg⟩ := getT_there hr.1 hr.2
  have hrg : ∀ q, S q ∨ inT T [x] q → 1 ≤ q ∧ q ≤ T.length := fun q k => k.elim (h.rg q) fun k => k.2
  cases hx : bget F x with
  | true =>
    have hb : learnB T.length F x = false := by unfold learnB; rw [hx]; simp
    unfold learnF
    rw [hb]
    simp only [Bool.not_false, Bool.and_true, Bool.false_eq_true, if_false]
    have hk : ∀ q, S q ∨ inT T [x] q → Kn T S true q := fun q k => by
      rcases k with k | k
      · obtain ⟨n, hn⟩ := getT_there (h.rg q k).1 (h.rg q k).2
        exact .base hn k
      · have : q = x := List.mem_singleton.1 k.1
        rw [this]; exact h.sd.1 x hr.1 hx
    exact ⟨h.wf, h.len, h.le, hrg, h.sd.mono fun _ => .inl, fun q k => k.elim (h.bs q) fun k => by rw [List.mem_singleton.1 k.1]; exact hx, fun a b => (h.dn a b).same (fun _ => .inl) hk, h.sz⟩
  | false =>
    have hb : learnB T.length F x = true := by unfold learnB; rw [hx, decide_eq_true (show 0 < x by omega), decide_eq_true hr.2]; rfl
    unfold learnF
    rw [hb]
    simp only [Bool.not_true, Bool.and_false, if_true]
    have hl : x.toNat < F.length := by omega
    refine ⟨h.wf, by rw [bset_length]; exact h.len, by rw [bset_length]; exact h.le, hrg, ⟨fun q a b => ?_, fun q a b => (h.sd.2 q a b).mono fun _ => .inl⟩, fun q k => ?_, fun a => (by cases a), h.sz⟩
    · simp only at b
      rw [bget_set F x q hl] at b
      by_cases e : x.toNat = q.toNat
      · have : q = x := by omega
        rw [this]
        exact .base hg (.inr ⟨List.mem_singleton.2 rfl, hr.1, hr.2⟩)
      · rw [decide_eq_false e, Bool.false_or] at b
        exact (h.sd.1 q a b).mono fun _ => .inl
    · rw [bget_set F x q hl]
      rcases k with k | k
      · rw [h.bs q k]; simp
      · rw [List.mem_singleton.1 k.1]; simp
def learnL (n : Nat) (F : List Bool) (l : List Int) : List Bool := l.foldl (learnF n) F
def learnFr (n : Nat) : List Bool → Bool → List Int → Bool
  | _, fr, [] => fr
  | F, fr, x :: l => learnFr n (learnF n F x) (fr && !learnB n F x) l
theorem learnL_len (n : Nat) : ∀ (l : List Int) (F : List Bool), (learnL n F l).length = F.length
  | [], _ => rfl
  | x :: l, F => (learnL_len n l (learnF n F x)).trans (learnF_len n F x)
theorem MOk.learns {T : List Nd} : ∀ (l : List Int) {S : Int → Prop} {F C : List Bool} {fresh : Bool} (h : MOk T S F C T.length fresh) (hF : F.length = T.length + 1), MOk T (fun q => S q ∨ inT T l q) (learnL T.length F l) C T.length (learnFr T.length F fresh l)
  | [], S, F, C, fresh, h, hF => h.iff fun q => ⟨.inl, fun k => k.elim id fun k => by have := k.1; cases this⟩
  | x :: l, S, F, C, fresh, h, hF => by
    have h1 := MOk.learns l (h.learn hF x) (by rw [learnF_len]; exact hF)
    refine h1.iff fun q => ?_
    unfold inT
    simp only [List.mem_cons, List.not_mem_nil, or_false]
    constructor
    · rintro ((k | k) | k)
      · exact .inl k
      · exact .inr ⟨.inl k.1, k.2⟩
      · exact .inr ⟨.inr k.1, k.2⟩
    · rintro (k | ⟨k | k, r⟩)
      · exact .inl (.inl k)
      · exact .inl (.inr ⟨k, r⟩)
      · exact .inr ⟨k, r⟩
/-- A look: all is so that can be. -/
theorem MOk.of_done {T : List Nd} (hw : WfT T) {S : Int → Prop} (hrg : ∀ h, S h → 1 ≤ h ∧ h ≤ T.length) {F C : List Bool} (h : DoneK T S F C) : MOk T S F C T.length true := by
  have l1 : F.length = T.length + 1 := h.len.F
  have l2 : C.length = T.length + 1 := h.len.C
  refine ⟨hw, by omega, by omega, hrg, ⟨fun x a b => (h.fol x a).1 b, fun x a b => (h.can x a).1 b⟩, fun x q => ?_, fun _ _ => h, Nat.le_refl _⟩
  obtain ⟨n, hn⟩ := getT_there (hrg x q).1 (hrg x q).2
  exact (h.fol x (hrg x q).1).2 (.base hn q)
end Go.Proofs.Ytomopjpfdmpgpaa
