/- The walk of SchedAsks. No condition. -/
import Derived.Test.YtomopjpfdmpgpaaSchedUnlike
set_option linter.unusedVariables false
set_option linter.unusedSimpArgs false
namespace Go.Proofs.Ytomopjpfdmpgpaa
open Go Go.RowKit Go.WideMaps

theorem wrap_in' {x : Int} (h : -9223372036854775808 ≤ x ∧ x ≤ 9223372036854775807) : wrap64 x = x := (IntWalk.i64_left x).symm.trans (IntWalk.i64_in x h)
/-- No mac is new. -/
def NoMac (T T' : List Nd) : Prop := ∀ x nd, getT T' x = some nd → nd.kind = 5 → getT T x = some nd
theorem NoMac.trans {T T' T'' : List Nd} (h : NoMac T T') (k : NoMac T' T'') : NoMac T T'' := fun x nd e q => h x nd (k x nd e q) q
theorem NoMac.refl (T : List Nd) : NoMac T T := fun x nd e q => e
theorem addT_noMac {T : List Nd} {n : Nd} (h : n.kind ≠ 5) : NoMac T (addT T n).1 := by
  unfold addT
  split
  · exact NoMac.refl T
  · split
    · exact NoMac.refl T
    · intro x nd e q
      show getT T x = some nd
      have e' : getT (T ++ [n]) x = some nd := e
      have hr := getT_range e'
      unfold getT at e' ⊢
      rw [if_pos hr.1] at e' ⊢
      by_cases hl : (x - 1).toNat < T.length
      · rwa [List.getElem?_append_left hl] at e'
      · rw [List.getElem?_append_right (by omega)] at e'
        have := List.mem_of_getElem? e'
        simp at this
        subst this
        exact absurd q h
theorem textT_noMac (T : List Nd) (b : ByteArray) : NoMac T (textT T b).1 := by
  unfold textT
  split
  · exact addT_noMac (by show (1 : Int) ≠ 5; decide)
  · exact NoMac.refl T
theorem makeT_noMac {T : List Nd} {k : Int} {p : List Int} (h : k ≠ 5) : NoMac T (makeT T k p).1 := by
  unfold makeT
  split
  · exact NoMac.refl T
  · exact addT_noMac h
theorem deriveT_noMac (T : List Nd) (s : Int) (l : ByteArray) (c : Int) : NoMac T (deriveT T s l c).1 := by
  unfold deriveT
  have h1 : NoMac T (ctxT T c).1 := by
    unfold ctxT
    split
    · exact textT_noMac _ _
    · exact NoMac.refl _
  exact (h1.trans (textT_noMac _ _)).trans (makeT_noMac (by decide))
theorem ask_none {T T0 : List Nd} {l : ByteArray} {k tr m : Int} (h0 : NoMac T0 T) (hm : ¬ In T0 m) : (askT T l k tr m).2 = false := by
  show macedT (deriveT T k l 0).1 (deriveT T k l 0).2 tr m = false
  unfold macedT
  cases e : getT (deriveT T k l 0).1 m with
  | none => rfl
  | some nd =>
    show decide _ = false
    rw [decide_eq_false]
    rintro ⟨q, _⟩
    exact hm ⟨nd, h0 m nd (deriveT_noMac T k l 0 m nd e q) q⟩
theorem fin_ne_bind : lbFinished ≠ lbBinder := by decide
theorem bind_ne_fin : lbBinder ≠ lbFinished := by decide
/-- A mac of a derived key. -/
def FinAt (T : List Nd) (x : Int) (l : ByteArray) (k tr : Int) : Prop := ∃ d, Der0 T d k l ∧ getT T x = some ⟨5, ByteArray.empty, [d, tr]⟩
theorem FinAt.ext {n : Nat} {T T' : List Nd} {x k tr : Int} {l : ByteArray} (h : FinAt T x l k tr) (e : Ext n T T') : FinAt T' x l k tr := by
  obtain ⟨d, h1, h2⟩ := h
  exact ⟨d, h1.ext e, e.get h2⟩
theorem FinAt.in_ {T : List Nd} {x k tr : Int} {l : ByteArray} (h : FinAt T x l k tr) : In T x := by
  obtain ⟨d, h1, h2⟩ := h
  exact ⟨_, h2⟩
theorem fin_spec {T : List Nd} {k tr : Int} {l : ByteArray} (hw : WfT T) (hl : l.size ≤ 2048) (hT : T.length < 50000) (hk : In T k) (hc : In T tr) : FinAt (macT T l k tr).1 (macT T l k tr).2 l k tr ∧ Ext 4 T (macT T l k tr).1 := by
  obtain ⟨d, h1, h2, h3⟩ := mac_spec hw hl hT hk hc
  exact ⟨⟨d, h1, h2⟩, h3⟩
theorem ask_spec {T : List Nd} {l l' : ByteArray} {k k' tr tr' m : Int} (hw : WfT T) (hl : l.size ≤ 2048) (hT : T.length < 50000) (hk : In T k) (hm : FinAt T m l' k' tr') :
    (askT T l k tr m).2 = decide (l = l' ∧ k = k' ∧ tr = tr') ∧ Ext 3 T (askT T l k tr m).1 := by
  obtain ⟨d, x⟩ := der_zero (l := l) hw hl (by omega) hk
  obtain ⟨d', h1, h2⟩ := hm.ext x
  refine ⟨?_, x⟩
  show macedT (deriveT T k l 0).1 (deriveT T k l 0).2 tr m = _
  rw [maced_at h2]
  by_cases h : l = l' ∧ k = k' ∧ tr = tr'
  · obtain ⟨rfl, rfl, rfl⟩ := h
    have e : d' = (deriveT T k l 0).2 := h1.uniq (deriveT_wf hw k l 0) d
    rw [decide_eq_true (show l = l ∧ k = k ∧ tr = tr from ⟨rfl, rfl, rfl⟩), decide_eq_true (show d' = (deriveT T k l 0).2 ∧ tr = tr from ⟨e, rfl⟩)]
  · rw [decide_eq_false h, decide_eq_false]
    rintro ⟨rfl, rfl⟩
    have := h1.inj d
    exact h ⟨this.2.symm, this.1.symm, rfl⟩
theorem next_ne {T : List Nd} (hw : WfT T) {x tr : Int} {m : ByteArray} (h : NextAt T x tr m) : x ≠ tr := by
  obtain ⟨row, tx, h1, h2, h3⟩ := h
  have a := (hw.get h1).range row (by simp)
  have b := (hw.get h2).range tr (by simp)
  have c := getT_range h1
  have d := getT_range h2
  omega

end Go.Proofs.Ytomopjpfdmpgpaa
