/- Own texts, one behind the other. Each bears its own remark. -/
import Derived.Test.YtbfgoojpbhlboaaDoorLib
import Derived.Orders
/- A region that draws whose operations only make memory: one goal for each operation, and one behind them all. No condition. -/
set_option linter.unusedVariables false
set_option linter.unusedSimpArgs false
namespace Go.Proofs.YtbfgoojpbhlboaaDoor
open Go Go.RowKit

theorem filter_le_len {p q : Nat → Bool} (h : ∀ x, q x = true → p x = true) : ∀ l : List Nat, (l.filter q).length ≤ (l.filter p).length
  | [] => Nat.le_refl _
  | a :: l => by
    have ih := filter_le_len h l
    by_cases hq : q a = true
    · rw [List.filter_cons_of_pos hq, List.filter_cons_of_pos (h a hq)]; simpa using ih
    · rw [List.filter_cons_of_neg hq]
      by_cases hp : p a = true
      · rw [List.filter_cons_of_pos hp]; simp; omega
      · rw [List.filter_cons_of_neg hp]; exact ih
theorem filter_lt_len {p q : Nat → Bool} (h : ∀ x, q x = true → p x = true) {i : Nat} (hp : p i = true) (hq : ¬ q i = true) : ∀ l : List Nat, i ∈ l → (l.filter q).length < (l.filter p).length
  | [], hi => by cases hi
  | a :: l, hi => by
    have hle := filter_le_len h l
    rcases List.mem_cons.1 hi with e | hi
    · subst e
      rw [List.filter_cons_of_neg hq, List.filter_cons_of_pos hp]
      simp; omega
    · have ih := filter_lt_len h hp hq l hi
      by_cases hqa : q a = true
      · rw [List.filter_cons_of_pos hqa, List.filter_cons_of_pos (h a hqa)]; simpa using ih
      · rw [List.filter_cons_of_neg hqa]
        by_cases hpa : p a = true
        · rw [List.filter_cons_of_pos hpa]; simp; omega
        · rw [List.filter_cons_of_neg hpa]; exact ih
/-- Each operation waits for earlier ones alone. -/
def waitsBack (ops : Array Oper) : Bool := (List.range ops.size).all fun i => match ops[i]? with
  | some o => o.after.all fun e => decide (e.on < i)
  | none => true
theorem waitsBack_spec {ops : Array Oper} (h : waitsBack ops = true) {i : Nat} {o : Oper} (ho : ops[i]? = some o) : ∀ e ∈ o.after, e.on < i := by
  intro e he
  unfold waitsBack at h
  rw [List.all_eq_true] at h
  have h1 := h i (List.mem_range.2 (Array.getElem?_eq_some_iff.1 ho).1)
  simp only [ho] at h1
  rw [Array.all_eq_true_iff_forall_mem] at h1
  exact of_decide_eq_true (h1 e he)
/-- All targets ahead of the last operation are different slots, and there. -/
def dstOk (n : Nat) (ops : Array Oper) : Bool := (List.range (ops.size - 1)).all fun i => match ops[i]? with
  | some o => (match o.dst with | some t => decide (t < n) && (List.range ops.size).all fun j => j == i || (match ops[j]? with | some o' => !(o'.dst == some t) | none => true) | none => false)
  | none => true
theorem dstOk_spec {n : Nat} {ops : Array Oper} (h : dstOk n ops = true) {i : Nat} {o : Oper} (hi : i < ops.size - 1) (ho : ops[i]? = some o) : ∃ t, o.dst = some t ∧ t < n ∧ ∀ j o', j ≠ i → ops[j]? = some o' → o'.dst ≠ some t := by
  unfold dstOk at h
  rw [List.all_eq_true] at h
  have h1 := h i (List.mem_range.2 hi)
  simp only [ho] at h1
  cases hd : o.dst with
  | none => rw [hd] at h1; cases h1
  | some t =>
    rw [hd] at h1
    simp only [Bool.and_eq_true, decide_eq_true_eq, List.all_eq_true] at h1
    refine ⟨t, rfl, h1.1, fun j o' hj ho' => ?_⟩
    have h2 := h1.2 j (List.mem_range.2 (Array.getElem?_eq_some_iff.1 ho').1)
    simp only [ho', Bool.or_eq_true, beq_iff_eq, hj, false_or, Bool.not_eq_true', beq_eq_false_iff_ne] at h2
    exact h2
/-- Each operation ahead of the last one is waited for. -/
def coverOk (ops : Array Oper) : Bool := (List.range (ops.size - 1)).all fun i => (List.range ops.size).any fun j => decide (i < j) && match ops[j]? with
  | some o => o.after.any fun e => Region.binds .any e && e.on == i
  | none => false
theorem coverOk_spec {ops : Array Oper} (h : coverOk ops = true) {i : Nat} (hi : i < ops.size - 1) : ∃ j o, i < j ∧ ops[j]? = some o ∧ ∃ e ∈ o.after, Region.binds .any e = true ∧ e.on = i := by
  unfold coverOk at h
  rw [List.all_eq_true] at h
  have h1 := h i (List.mem_range.2 hi)
  rw [List.any_eq_true] at h1
  obtain ⟨j, -, hj⟩ := h1
  rw [Bool.and_eq_true, decide_eq_true_eq] at hj
  cases ho : ops[j]? with
  | none => rw [ho] at hj; exact absurd hj.2 (by simp)
  | some o =>
    rw [ho] at hj
    obtain ⟨e, he, hb⟩ := Array.any_eq_true'.1 hj.2
    simp only [Bool.and_eq_true, beq_iff_eq] at hb
    exact ⟨j, o, hj.1, ho, e, he, hb.1, hb.2⟩
theorem getD_set_eq {α : Type} {xs : Array α} {i : Nat} {v d : α} (h : i < xs.size) : (xs.setIfInBounds i v).getD i d = v := by
  simp [Array.getD_eq_getD_getElem?, h]
theorem getD_set_other {α : Type} {xs : Array α} {i j : Nat} {v d : α} (h : i ≠ j) : (xs.setIfInBounds i v).getD j d = xs.getD j d := by
  simp [Array.getD_eq_getD_getElem?, Array.getElem?_setIfInBounds, h]
def depOn (o : Oper) (d : Nat) : Bool := o.after.any fun e => Region.binds .any e && e.on == d
def dstOf (ops : Array Oper) (d : Nat) : Option Tmp := (ops[d]?).bind (·.dst)
def noDst (ops : Array Oper) (t : Tmp) : Bool := ops.all fun o => !(o.dst == some t)
theorem noDst_spec {ops : Array Oper} {t : Tmp} (h : noDst ops t = true) : ∀ (j : Nat) (oj : Oper), ops[j]? = some oj → oj.dst ≠ some t := by
  intro j oj hj
  unfold noDst at h
  rw [Array.all_eq_true_iff_forall_mem] at h
  have := h oj (Array.mem_of_getElem? hj)
  simpa using this
/-- The same, in the form in which it is owed: operation by operation, slots and properties by number. -/
def LaneDue (P : Program) (ops : Array Oper) (Q : Exit → Act → World → Prop) (S : World → Prop) (PR : Nat → Value → World → Prop) (a0 : Act) (w0 : World) (i : Nat) (o : Oper) : Prop :=
  ∀ (a : Act) (w : World), Below w0.heap.size w0 w → S w → (∀ t, noDst ops t = true → a.tmps[t]?.getD undef = a0.tmps[t]?.getD undef) →
    (∀ d t, depOn o d = true → dstOf ops d = some t → PR d (a.tmps[t]?.getD undef) w) →
    Region.wanted o (yielded ops a.tmps) = true ∧ o.wp P a w (fun a' w' => ∃ v, a' = a.put o.dst v ∧ PR i v w' ∧ Below w.heap.size w w') Q
def LaneEnd (P : Program) (ops : Array Oper) (Q : Exit → Act → World → Prop) (S : World → Prop) (PR : Nat → Value → World → Prop) (a0 : Act) (w0 : World) (o : Oper) : Prop :=
  ∀ (a : Act) (w : World), a.defers = a0.defers → a.tmps.size = a0.tmps.size → Below w0.heap.size w0 w → S w → (∀ t, noDst ops t = true → a.tmps[t]?.getD undef = a0.tmps[t]?.getD undef) →
    (∀ d t, d < ops.size - 1 → dstOf ops d = some t → PR d (a.tmps[t]?.getD undef) w) →
    Region.wanted o (yielded ops a.tmps) = true ∧ o.wp P a w (fun a' w' => Q .normal a' w') Q
def AllLanes (F : Nat → Oper → Prop) (G : Oper → Prop) : Nat → List Oper → Prop
  | _, [] => True
  | _, [o] => G o
  | i, o :: o' :: rest => F i o ∧ AllLanes F G (i + 1) (o' :: rest)
theorem AllLanes.at_ {F : Nat → Oper → Prop} {G : Oper → Prop} : ∀ (l : List Oper) (i : Nat), AllLanes F G i l → (∀ j o, j + 1 < l.length → l[j]? = some o → F (i + j) o) ∧ (∀ o, l[l.length - 1]? = some o → G o)
  | [], i, h => ⟨fun j o hj => by simp at hj, fun o ho => by simp at ho⟩
  | [x], i, h => ⟨fun j o hj => by simp at hj, fun o ho => by simp at ho; subst ho; exact h⟩
  | x :: y :: rest, i, h => by
    obtain ⟨h1, h2⟩ := AllLanes.at_ (y :: rest) (i + 1) h.2
    refine ⟨fun j o hj ho => ?_, fun o ho => h2 o (by simpa using ho)⟩
    cases j with
    | zero => simp at ho; subst ho; exact h.1
    | succ j =>
      have := h1 j o (by simp at hj ⊢; omega) (by simpa using ho)
      rw [show i + (j + 1) = i + 1 + j from by omega]
      exact this
/-- What one operation owes: it yields a value with its property, and only makes memory. -/
def LaneOp (P : Program) (ops : Array Oper) (Q : Exit → Act → World → Prop) (S : World → Prop) (PR : Nat → Value → World → Prop) (a0 : Act) (w0 : World) (i : Nat) (o : Oper) : Prop :=
  ∀ (a : Act) (w : World), Below w0.heap.size w0 w → S w →
    (∀ t, (∀ (j : Nat) (oj : Oper), ops[j]? = some oj → oj.dst ≠ some t) → a.tmps.getD t undef = a0.tmps.getD t undef) →
    (∀ e ∈ o.after, Region.binds .any e = true → ∀ oe t, ops[e.on]? = some oe → oe.dst = some t → PR e.on (a.tmps.getD t undef) w) →
    Region.wanted o (yielded ops a.tmps) = true ∧ o.wp P a w (fun a' w' => ∃ v, a' = a.put o.dst v ∧ PR i v w' ∧ Below w.heap.size w w') Q
structure LaneInv (ops : Array Oper) (S : World → Prop) (PR : Nat → Value → World → Prop) (a0 : Act) (w0 : World) (listed : Array Bool) (a : Act) (w : World) : Prop where
  sz : listed.size = ops.size
  ds : a.defers = a0.defers
  ts : a.tmps.size = a0.tmps.size
  bl : Below w0.heap.size w0 w
  s : S w
  un : ∀ t, (∀ (j : Nat) (oj : Oper), ops[j]? = some oj → oj.dst ≠ some t) → a.tmps.getD t undef = a0.tmps.getD t undef
  pr : ∀ i o t, ops[i]? = some o → listed.getD i false = true → o.dst = some t → PR i (a.tmps.getD t undef) w
  cl : ∀ i o, ops[i]? = some o → listed.getD i false = true → ∀ e ∈ o.after, Region.binds .any e = true → listed.getD e.on false = true
  la : listed.getD (ops.size - 1) false = false
section
variable {P : Program} {ops : Array Oper} {Q : Exit → Act → World → Prop} {S : World → Prop} {PR : Nat → Value → World → Prop} {a0 : Act} {w0 : World}
theorem wpAny_full {fuel : Nat} {listed : Array Bool} {a : Act} {w : World} (h : ∀ i, i < ops.size → listed.getD i true = true) (hq : Q .normal a w) : wpAny P .any ops Q fuel listed a w := by
  have hr : Region.ready .any ops listed = [] := by
    apply List.eq_nil_iff_forall_not_mem.2
    intro i hi
    obtain ⟨h1, o, ho, -⟩ := mem_ready.1 hi
    rw [h i (Array.getElem?_eq_some_iff.1 ho).1] at h1
    cases h1
  cases fuel with
  | zero => exact ⟨hr, hq⟩
  | succ fuel => exact ⟨fun _ => hq, by rw [hr]; simp⟩
theorem getD_in {listed : Array Bool} {i : Nat} (hi : i < listed.size) (d d' : Bool) : listed.getD i d = listed.getD i d' := by
  simp [Array.getD_eq_getD_getElem?, Array.getElem?_eq_getElem hi]
/-- The last one may come up only behind all the others. -/
theorem last_ready (hc : coverOk ops = true) {listed : Array Bool} {a : Act} {w : World} (h : LaneInv ops S PR a0 w0 listed a w) {o : Oper} (ho : ops[ops.size - 1]? = some o) (hw : ∀ e ∈ o.after, Region.binds .any e = true → listed.getD e.on false = true) :
    ∀ i, i < ops.size - 1 → listed.getD i false = true := by
  have key : ∀ k i, i < ops.size - 1 → ops.size - 1 - i ≤ k → listed.getD i false = true := by
    intro k
    induction k with
    | zero => intro i hi hk; omega
    | succ k ih =>
      intro i hi hk
      obtain ⟨j, oj, hij, hoj, e, he, hb, rfl⟩ := coverOk_spec hc hi
      have hjl := (Array.getElem?_eq_some_iff.1 hoj).1
      by_cases hj : j = ops.size - 1
      · subst hj
        rw [ho] at hoj; cases hoj
        exact hw e he hb
      · exact h.cl j oj hoj (ih j (by omega) (by omega)) e he hb
  exact fun i hi => key _ i hi (Nat.le_refl _)
theorem lanes_any (hz : waitsBack ops = true) (hc : coverOk ops = true) (hd : dstOk a0.tmps.size ops = true) (hpos : 0 < ops.size) (hS : ∀ w w', S w → Below w.heap.size w w' → S w') (hP : ∀ i v w w', PR i v w → Below w.heap.size w w' → PR i v w')
    (hl : ∀ i o, i < ops.size - 1 → ops[i]? = some o → LaneOp P ops Q S PR a0 w0 i o)
    (hlast : ∀ o, ops[ops.size - 1]? = some o → ∀ a w, a.defers = a0.defers → a.tmps.size = a0.tmps.size → Below w0.heap.size w0 w → S w → (∀ t, (∀ (j : Nat) (oj : Oper), ops[j]? = some oj → oj.dst ≠ some t) → a.tmps.getD t undef = a0.tmps.getD t undef) → (∀ i oi t, i < ops.size - 1 → ops[i]? = some oi → oi.dst = some t → PR i (a.tmps.getD t undef) w) →
      Region.wanted o (yielded ops a.tmps) = true ∧ o.wp P a w (fun a' w' => Q .normal a' w') Q) :
    ∀ fuel listed a w, LaneInv ops S PR a0 w0 listed a w → ((List.range ops.size).filter fun i => !listed.getD i true).length ≤ fuel → wpAny P .any ops Q fuel listed a w := by
  have notdone : ∀ listed a w, LaneInv ops S PR a0 w0 listed a w → Region.ready .any ops listed ≠ [] := by
    intro listed a w h hr
    have hall : ∀ i, i < ops.size → listed.getD i false = true := by
      intro i
      induction i using Nat.strongRecOn with
      | _ i ih =>
        intro hi
        by_cases hli : listed.getD i true = true
        · rw [getD_in (by rw [h.sz]; exact hi) false true]; exact hli
        · have ho : ops[i]? = some ops[i] := Array.getElem?_eq_getElem hi
          have : i ∈ Region.ready .any ops listed := mem_ready.2 ⟨by simpa using hli, _, ho, fun e he _ => ih e.on (waitsBack_spec hz ho e he) (by have := waitsBack_spec hz ho e he; omega)⟩
          rw [hr] at this
          cases this
    have := hall (ops.size - 1) (by omega)
    rw [h.la] at this
    cases this
  intro fuel
  induction fuel with
  | zero =>
    intro listed a w h hf
    exfalso
    apply notdone _ _ _ h
    apply List.eq_nil_iff_forall_not_mem.2
    intro i hi
    obtain ⟨h1, o, ho, -⟩ := mem_ready.1 hi
    have h0 := List.eq_nil_of_length_eq_zero (Nat.le_zero.1 hf)
    have : i ∈ (List.range ops.size).filter fun i => !listed.getD i true := List.mem_filter.2 ⟨List.mem_range.2 (Array.getElem?_eq_some_iff.1 ho).1, by simp [h1]⟩
    rw [h0] at this
    cases this
  | succ fuel ih =>
    intro listed a w h hf
    refine ⟨fun hr => absurd hr (notdone _ _ _ h), fun i hi => ?_⟩
    obtain ⟨h1, o, ho, hw⟩ := mem_ready.1 hi
    have hil := (Array.getElem?_eq_some_iff.1 ho).1
    unfold wpOp
    rw [ho]
    by_cases hlast' : i = ops.size - 1
    · subst hlast'
      have hall := last_ready hc h ho hw
      obtain ⟨hwant, hstep⟩ := hlast o ho a w h.ds h.ts h.bl h.s h.un (fun j oj t hj hoj htj => h.pr j oj t hoj (hall j hj) htj)
      simp only [hwant, if_true]
      refine .inl (Oper.wp_mono (fun a' w' hq => wpAny_full (fun j hj => ?_) hq) hstep)
      by_cases e : ops.size - 1 = j
      · subst e; exact getD_set_eq (by rw [h.sz]; exact hil)
      · rw [getD_set_other e, getD_in (by rw [h.sz]; exact hj) true false]
        exact hall j (by omega)
    · have hi' : i < ops.size - 1 := by omega
      obtain ⟨t, ht, htn, hto⟩ := dstOk_spec hd hi' ho
      obtain ⟨hwant, hstep⟩ := hl i o hi' ho a w h.bl h.s h.un (fun e he hb oe te hoe hte => h.pr e.on oe te hoe (hw e he hb) hte)
      simp only [hwant, if_true]
      refine .inl (Oper.wp_mono (fun a' w' => ?_) hstep)
      rintro ⟨v, rfl, hv, hb⟩
      refine ih _ _ _ ⟨?_, ?_, ?_, ?_, ?_, ?_, ?_, ?_, ?_⟩ ?_
      · simpa using h.sz
      · rw [ht]; exact h.ds
      · rw [ht]; simpa [Act.put] using h.ts
      · exact below_next h.bl h.bl.size hb
      · exact hS _ _ h.s hb
      · intro t' hno
        rw [ht]
        have hne : t ≠ t' := fun e => hno i o ho (by rw [ht, e])
        simp only [Act.put]
        rw [getD_set_other hne]
        exact h.un t' hno
      · intro j oj tj hoj hlj htj
        rw [ht]
        simp only [Act.put]
        by_cases e : j = i
        · subst e
          rw [ho] at hoj; cases hoj
          rw [ht] at htj; cases htj
          rw [getD_set_eq (by rw [h.ts]; exact htn)]
          exact hv
        · have hne : t ≠ tj := fun e' => hto j oj e hoj (by rw [htj, e'])
          rw [getD_set_other hne]
          rw [getD_set_other (Ne.symm e)] at hlj
          exact hP _ _ _ _ (h.pr j oj tj hoj hlj htj) hb
      · intro j oj hoj hlj e he hb'
        by_cases e1 : i = e.on
        · rw [e1]; exact getD_set_eq (by rw [← e1, h.sz]; exact hil)
        · rw [getD_set_other e1]
          by_cases e2 : i = j
          · subst e2
            rw [ho] at hoj; cases hoj
            exact hw e he hb'
          · rw [getD_set_other e2] at hlj
            exact h.cl j oj hoj hlj e he hb'
      · rw [getD_set_other hlast']; exact h.la
      · have := filter_lt_len (p := fun i => !listed.getD i true) (q := fun j => !(listed.setIfInBounds i true).getD j true) (i := i) (fun x hx => by
          by_cases e : i = x
          · subst e; rw [getD_set_eq (by rw [h.sz]; exact hil)] at hx; simp at hx
          · rw [getD_set_other e] at hx; exact hx) (by simp [h1]) (by rw [getD_set_eq (by rw [h.sz]; exact hil)]; simp) (List.range ops.size) (List.mem_range.2 hil)
        omega
theorem wp_lanes {id : Nat} (hm : P.follows .mixedOrders = true) (S : World → Prop) (PR : Nat → Value → World → Prop) (hz : waitsBack ops = true) (hc : coverOk ops = true) (hd : dstOk a0.tmps.size ops = true) (hpos : 0 < ops.size) (hS : ∀ w w', S w → Below w.heap.size w w' → S w') (hP : ∀ i v w w', PR i v w → Below w.heap.size w w' → PR i v w') (h0 : S w0.drew)
    (hl : ∀ i o, i < ops.size - 1 → ops[i]? = some o → LaneOp P ops Q S PR a0 w0.drew i o)
    (hlast : ∀ o, ops[ops.size - 1]? = some o → ∀ a w, a.defers = a0.defers → a.tmps.size = a0.tmps.size → Below w0.drew.heap.size w0.drew w → S w → (∀ t, (∀ (j : Nat) (oj : Oper), ops[j]? = some oj → oj.dst ≠ some t) → a.tmps.getD t undef = a0.tmps.getD t undef) → (∀ i oi t, i < ops.size - 1 → ops[i]? = some oi → oi.dst = some t → PR i (a.tmps.getD t undef) w) →
      Region.wanted o (yielded ops a.tmps) = true ∧ o.wp P a w (fun a' w' => Q .normal a' w') Q) :
    (Code.region id ops true).wp P Q a0 w0 := by
  refine wp_region_any hm ?_
  refine lanes_any (w0 := w0.drew) hz hc hd hpos hS hP hl hlast _ _ _ _ ⟨by simp, rfl, rfl, Below.refl _ _, h0, fun _ _ => rfl, fun i o t ho hlt => ?_, fun i o ho hlt => ?_, ?_⟩ ?_
  · exfalso
    rw [Array.getD_eq_getD_getElem?, Array.getElem?_replicate] at hlt
    split at hlt <;> simp at hlt
  · exfalso
    rw [Array.getD_eq_getD_getElem?, Array.getElem?_replicate] at hlt
    split at hlt <;> simp at hlt
  · rw [Array.getD_eq_getD_getElem?, Array.getElem?_replicate]
    split <;> rfl
  · exact Nat.le_trans (List.length_filter_le _ _) (by simp)
theorem wp_lanes_list {id : Nat} (hm : P.follows .mixedOrders = true) (S : World → Prop) (PR : Nat → Value → World → Prop) (hz : waitsBack ops = true) (hc : coverOk ops = true) (n : Nat) (hn : a0.tmps.size = n) (hd : dstOk n ops = true) (hpos : 0 < ops.size) (hS : ∀ w w', S w → Below w.heap.size w w' → S w') (hP : ∀ i v w w', PR i v w → Below w.heap.size w w' → PR i v w') (h0 : S w0.drew)
    (h : AllLanes (LaneDue P ops Q S PR a0 w0.drew) (LaneEnd P ops Q S PR a0 w0.drew) 0 ops.toList) : (Code.region id ops true).wp P Q a0 w0 := by
  obtain ⟨h1, h2⟩ := AllLanes.at_ _ _ h
  have un : ∀ a : Act, (∀ t, (∀ (j : Nat) (oj : Oper), ops[j]? = some oj → oj.dst ≠ some t) → a.tmps.getD t undef = a0.tmps.getD t undef) → ∀ t, noDst ops t = true → a.tmps[t]?.getD undef = a0.tmps[t]?.getD undef := fun a h t ht => by
    have := h t (noDst_spec ht)
    simpa using this
  subst hn
  refine wp_lanes hm S PR hz hc hd hpos hS hP h0 (fun i o hi ho a w hb hs hun hdep => ?_) (fun o ho a w hds hts hb hs hun hpr => ?_)
  · have := h1 i o (by simp; omega) (by simpa using ho)
    rw [Nat.zero_add] at this
    refine this a w hb hs (un a hun) fun d t hdo hdt => ?_
    obtain ⟨e, he, hbe⟩ := Array.any_eq_true'.1 hdo
    simp only [Bool.and_eq_true, beq_iff_eq] at hbe
    obtain ⟨oe, hoe, hoe2⟩ := Option.bind_eq_some_iff.1 hdt
    rw [← hbe.2] at hoe
    have := hdep e he hbe.1 oe t hoe hoe2
    rw [hbe.2] at this
    simpa using this
  · refine h2 o (by simpa using ho) a w hds hts hb hs (un a hun) fun d t hlt hdt => ?_
    obtain ⟨oe, hoe, hoe2⟩ := Option.bind_eq_some_iff.1 hdt
    have := hpr d oe t hlt hoe hoe2
    simpa using this
end
/-- A slice lies at block N or above. -/
def Hi (N n : Nat) (A : Option Addr) : Prop := ∀ a, 0 < n → A = some a → N ≤ a.block
theorem Rds.putRow {B : Nat} {w : World} {k : IntKind} {A : Option Addr} {n c : Nat} {xs : List Int} (h : Rds B w k A n c xs) {g : Nat} (cs : Array Value) (hne : ∀ a, 0 < n → A = some a → a.block ≠ g) : Rds B (w.setRow g cs) k A n c xs := by
  refine ⟨h.len, h.cap, h.max, fun j hj => ?_, fun p a e => ?_⟩
  · obtain ⟨ad, e, hc⟩ := h.cell j hj
    refine ⟨ad, e, ?_⟩
    rw [← hc]
    exact World.cell?_of_block (by rw [add_block]; exact setRow_other w g _ _ (hne ad (by have := h.len; omega) e))
  · have hk := h.safe p a e
    have hn := hne a p e
    refine ⟨by simpa using hk.1, hk.2.imp id ?_⟩
    rintro ⟨cs', t, fr, q1, q2⟩
    exact ⟨cs', t, fr, (setRow_other w g _ _ hn).trans q1, q2⟩
/-- append(T{}, xs...): only makes memory. -/
theorem run_app_empty {P : Program} {w : World} (t ty e : Nat) (i : TypeInfo) (z : Value) (k : IntKind) (bytes : Nat) (ht : P.underlying t = some (.slice e)) (hi : P.info? e = some i) (hz : i.zero = some z) (hs : i.size = 1) (hby : i.bytes = bytes) (hzs : z.cells.size = 1) (he : spT e = false)
    (g : Nat) {B : Nat} {A : Option Addr} {m c : Nat} {ys : List Int} (hr : Rds B w k A m c ys) (hbytes : m * bytes ≤ 140737488355328) (h63 : m ≤ 9223372036854775807) :
    ∃ A' c' w', (Builtin.append_ #[t, t] ty #[.slice (some ⟨g, 0, none⟩) 0 0, .slice A m c]).run P w = .ok (.slice A' m c') w' ∧ Rds 0 w' k A' m c' ys ∧ Below w.heap.size w w' ∧ Hi w.heap.size m A' := by
  by_cases hy : ys = []
  · subst hy
    have hm := hr.len
    simp only [List.length_nil] at hm
    subst hm
    exact ⟨_, _, w, run_app_nil_src t ty e i ht hi _ _ 0 (Nat.le_refl _) A c, ⟨rfl, Nat.le_refl _, by omega, fun j hj => absurd hj (Nat.not_lt_zero j), fun h => absurd h (Nat.lt_irrefl 0)⟩, Below.refl _ _, fun a h => absurd h (Nat.lt_irrefl 0)⟩
  · have hpos : 0 < ys.length := List.length_pos_iff.2 hy
    have hm := hr.len
    obtain ⟨b, o, rfl, hcell⟩ := hr.cell.at_ hpos
    have hnews : ∀ j u, (ys.map (Value.int k))[j]? = some u → w.cell? ((⟨b, o, none⟩ : Addr).add j) = some u := by
      intro j u hu
      have hj : j < ys.length := by simpa using (List.getElem?_eq_some_iff.1 hu).1
      rw [addr_add, hcell j hj]
      rw [List.getElem?_map, nth_lt hj] at hu
      exact hu
    have hl : (ys.map (Value.int k)).length = m * i.size := by rw [hs]; simp [hm]
    have hrun := run_append_grow (P := P) (w := w) t ty e i z ht hi hz ⟨g, 0, none⟩ 0 0 [] (by simp) (fun j v h => by simp at h) ⟨b, o, none⟩ m c _ hl hnews (by omega) (by omega) (growslice_fits (by omega) (by rw [hby]; simpa using hbytes))
    simp only [Nat.zero_add] at hrun
    have hge := grownCap_ge w m 0 e
    have hcm : grownCap w m 0 e ≤ 9223372036854775807 := by
      have := grownCap_le_maxLen w m 0 e (by simp only [maxLen]; omega)
      simpa only [maxLen] using this
    refine ⟨_, _, _, hrun, ?_, ((Below.refl _ _).drew).alloc (Nat.le_refl _) _, fun a _ e => by cases e; exact Nat.le_refl _⟩
    have ho : OwnI (w.drew.alloc (.cells (([] : List Value).toArray ++ (ys.map (Value.int k)).toArray ++ Builtin.zeroCells z.cells (grownCap w m 0 e - m)) e)) w.heap.size k (.slice (some ⟨w.heap.size, 0, none⟩) m (grownCap w m 0 e)) ys := by
      refine OwnI.new (t := e) (heap_alloc_new w.drew _) (Nat.le_refl _) he hm hge ?_ hcm ?_
      · simp only [Array.size_append, List.size_toArray, List.length_map, List.length_nil, size_zeroCells, hzs]
        omega
      · simp only [Array.toList_append, List.append_assoc, List.nil_append]
        rw [show m = (ys.map (Value.int k)).length from by simp [hm]]
        exact List.take_left
    exact ho.rds
theorem lane_app {P : Program} {w : World} {o : Oper} {a : Act} {Q : Exit → Act → World → Prop} (s x : Tmp) (t e : Nat) (k : IntKind) (z : Value) (bytes : Nat) (ho : o.op = .call { callee := .builtin .append, args := #[.tmp s, .tmp x], argTypes := #[t, t] })
    (ht : P.underlying t = some (.slice e)) (hinf : (P.info? e).map (fun i => (i.zero, i.size, i.bytes)) = some (some z, 1, bytes)) (hzs : z.cells.size = 1) (he : spT e = false) {g : Nat} {B : Nat} {A : Option Addr} {m c : Nat} {ys : List Int} (hv : a.tmps[s]?.getD undef = .slice (some ⟨g, 0, none⟩) 0 0) (hx : a.tmps[x]?.getD undef = .slice A m c) (hr : Rds B w k A m c ys) (hbytes : m * bytes ≤ 140737488355328) (h63 : m ≤ 9223372036854775807) {N : Nat} (hN : N ≤ w.heap.size) :
    o.wp P a w (fun a' w' => ∃ v, a' = a.put o.dst v ∧ (∃ A' c', v = .slice A' m c' ∧ Rds 0 w' k A' m c' ys ∧ Hi N m A') ∧ Below w.heap.size w w') Q := by
  obtain ⟨i, hi, hz, hs, hby⟩ := info_parts hinf
  obtain ⟨A', c', w', hrun, h1, h2, h3⟩ := run_app_empty (P := P) (w := w) t o.type e i z k bytes ht hi hz hs hby hzs he g hr hbytes h63
  have hv' : a.eval (.tmp s) = .slice (some ⟨g, 0, none⟩) 0 0 := by show a.tmps.getD s undef = _; simpa using hv
  have hx' : a.eval (.tmp x) = .slice A m c := by show a.tmps.getD x undef = _; simpa using hx
  unfold Oper.wp execOp
  simp only [ho, resolve, invoke, builtin, Sem.run_bind, Sem.run_pure, Result.andThen_ok, List.map_toArray, List.map_cons, List.map_nil, hv', hx', hrun]
  exact ⟨_, rfl, ⟨_, _, rfl, h1, fun x p e => Nat.le_trans hN (h3 x p e)⟩, h2⟩
end Go.Proofs.YtbfgoojpbhlboaaDoor

/- A region that draws: lanes that only make memory, then a tail in its order; blocks made by different lanes are different. No condition. -/
set_option linter.unusedVariables false
set_option linter.unusedSimpArgs false
namespace Go.Proofs.YtbfgoojpbhlboaaDoor
open Go Go.RowKit

def dstOkM (n m : Nat) (ops : Array Oper) : Bool := (List.range m).all fun i => match ops[i]? with
  | some o => (match o.dst with | some t => decide (t < n) && (List.range ops.size).all fun j => j == i || (match ops[j]? with | some o' => !(o'.dst == some t) | none => true) | none => false)
  | none => true
theorem dstOkM_spec {n m : Nat} {ops : Array Oper} (h : dstOkM n m ops = true) {i : Nat} {o : Oper} (hi : i < m) (ho : ops[i]? = some o) : ∃ t, o.dst = some t ∧ t < n ∧ ∀ j o', j ≠ i → ops[j]? = some o' → o'.dst ≠ some t := by
  unfold dstOkM at h
  rw [List.all_eq_true] at h
  have h1 := h i (List.mem_range.2 hi)
  simp only [ho] at h1
  cases hd : o.dst with
  | none => rw [hd] at h1; cases h1
  | some t =>
    rw [hd] at h1
    simp only [Bool.and_eq_true, decide_eq_true_eq, List.all_eq_true] at h1
    refine ⟨t, rfl, h1.1, fun j o' hj ho' => ?_⟩
    have h2 := h1.2 j (List.mem_range.2 (Array.getElem?_eq_some_iff.1 ho').1)
    simp only [ho', Bool.or_eq_true, beq_iff_eq, hj, false_or, Bool.not_eq_true', beq_eq_false_iff_ne] at h2
    exact h2
/-- Each lane is waited for by a later one, or by the tail's first; each of the tail waits for the one ahead. -/
def coverOkM (m : Nat) (ops : Array Oper) : Bool := ((List.range m).all fun i => (List.range (m + 1)).any fun j => decide (i < j) && match ops[j]? with
  | some o => depOn o i
  | none => false) && ((List.range ops.size).all fun j => !decide (m < j) || match ops[j]? with
  | some o => depOn o (j - 1)
  | none => false)
theorem depOn_spec {o : Oper} {d : Nat} (h : depOn o d = true) : ∃ e ∈ o.after, Region.binds .any e = true ∧ e.on = d := by
  obtain ⟨e, he, hb⟩ := Array.any_eq_true'.1 h
  simp only [Bool.and_eq_true, beq_iff_eq] at hb
  exact ⟨e, he, hb.1, hb.2⟩
theorem coverOkM_spec {m : Nat} {ops : Array Oper} (h : coverOkM m ops = true) {i : Nat} (hi : i < m) : ∃ j o, i < j ∧ j ≤ m ∧ ops[j]? = some o ∧ depOn o i = true := by
  unfold coverOkM at h
  rw [Bool.and_eq_true, List.all_eq_true, List.all_eq_true] at h
  have h1 := h.1 i (List.mem_range.2 hi)
  rw [List.any_eq_true] at h1
  obtain ⟨j, hjr, hj⟩ := h1
  rw [Bool.and_eq_true, decide_eq_true_eq] at hj
  cases ho : ops[j]? with
  | none => rw [ho] at hj; exact absurd hj.2 (by simp)
  | some o =>
    rw [ho] at hj
    exact ⟨j, o, hj.1, by have := List.mem_range.1 hjr; omega, ho, hj.2⟩
theorem tail_spec {m : Nat} {ops : Array Oper} (h : coverOkM m ops = true) {j : Nat} {o : Oper} (hj : m < j) (ho : ops[j]? = some o) : depOn o (j - 1) = true := by
  unfold coverOkM at h
  rw [Bool.and_eq_true, List.all_eq_true, List.all_eq_true] at h
  have h1 := h.2 j (List.mem_range.2 (Array.getElem?_eq_some_iff.1 ho).1)
  rw [ho] at h1
  simpa [hj] using h1
/-- The tail, in its order. -/
def wpTail (P : Program) (ops : Array Oper) (Q : Exit → Act → World → Prop) : List Oper → Act → World → Prop
  | [], a, w => Q .normal a w
  | o :: r, a, w => Region.wanted o (yielded ops a.tmps) = true ∧ o.wp P a w (fun a' w' => wpTail P ops Q r a' w') Q
section
variable {P : Program} {ops : Array Oper} {Q : Exit → Act → World → Prop} {S : World → Prop} {PR : Nat → Value → World → Prop} {AL : Nat → Bool} {a0 : Act} {w0 : World} {m : Nat}
theorem wpAny_tail (hz : waitsBack ops = true) (hc : coverOkM m ops = true) : ∀ (r : List Oper) (j fuel : Nat) (listed : Array Bool) (a : Act) (w : World), ops.toList.drop j = r → m ≤ j → listed.size = ops.size → (∀ i, i < ops.size → (listed.getD i false = true ↔ i < j)) → r.length ≤ fuel →
    wpTail P ops Q r a w → wpAny P .any ops Q fuel listed a w := by
  intro r
  induction r with
  | nil =>
    intro j fuel listed a w hd hm hs hl hf h
    refine wpAny_full (fun i hi => ?_) h
    have hjs : ops.size ≤ j := by
      have := congrArg List.length hd
      simp at this
      omega
    rw [getD_in (by rw [hs]; exact hi) true false]
    exact (hl i hi).2 (by omega)
  | cons o r ih =>
    intro j fuel listed a w hd hm hs hl hf h
    have hj : j < ops.size := by
      have := congrArg List.length hd
      simp at this
      omega
    have ho : ops[j]? = some o := by
      have := congrArg (fun l => l[0]?) hd
      simpa using this
    have hd' : ops.toList.drop (j + 1) = r := by
      have := congrArg (List.drop 1) hd
      simpa using this
    cases fuel with
    | zero => simp at hf
    | succ fuel =>
      have hready : ∀ i ∈ Region.ready .any ops listed, i = j := by
        intro i hi
        obtain ⟨h1, oi, hoi, hw⟩ := mem_ready.1 hi
        have hil := (Array.getElem?_eq_some_iff.1 hoi).1
        have hnot : ¬ i < j := fun k => by
          have := (hl i hil).2 k
          rw [getD_in (by rw [hs]; exact hil) true false] at h1
          rw [h1] at this; cases this
        rcases Nat.lt_or_ge j i with k | k
        · obtain ⟨e, he, hb, hon⟩ := depOn_spec (tail_spec hc (by omega) hoi)
          have := hw e he hb
          rw [hon] at this
          have := (hl (i - 1) (by omega)).1 this
          omega
        · omega
      refine ⟨fun hr => ?_, fun i hi => ?_⟩
      · exfalso
        have : j ∈ Region.ready .any ops listed := mem_ready.2 ⟨?_, o, ho, fun e he hb => (hl e.on (by have := waitsBack_spec hz ho e he; omega)).2 (waitsBack_spec hz ho e he)⟩
        · rw [hr] at this; cases this
        · rw [getD_in (by rw [hs]; exact hj) true false]
          cases hh : listed.getD j false with
          | false => rfl
          | true => have := (hl j hj).1 hh; omega
      · obtain rfl := hready i hi
        unfold wpOp
        rw [ho]
        obtain ⟨hwant, hstep⟩ := h
        simp only [hwant, if_true]
        refine .inl (Oper.wp_mono (fun a' w' hq => ih (i + 1) fuel _ a' w' hd' (by omega) (by simpa using hs) (fun q hq' => ?_) (by simp at hf; omega) hq) hstep)
        by_cases e : i = q
        · subst e
          rw [getD_set_eq (by rw [hs]; exact hj)]
          simp
        · rw [getD_set_other e, hl q hq']
          omega
structure LaneInv2 (ops : Array Oper) (S : World → Prop) (PR : Nat → Value → World → Prop) (AL : Nat → Bool) (a0 : Act) (w0 : World) (m : Nat) (listed : Array Bool) (a : Act) (w : World) : Prop where
  sz : listed.size = ops.size
  ds : a.defers = a0.defers
  ts : a.tmps.size = a0.tmps.size
  bl : Below w0.heap.size w0 w
  s : S w
  un : ∀ t, noDst ops t = true → a.tmps[t]?.getD undef = a0.tmps[t]?.getD undef
  pr : ∀ d t, d < m → listed.getD d false = true → dstOf ops d = some t → PR d (a.tmps[t]?.getD undef) w
  ne : ∀ i j t u, i < m → j < m → i ≠ j → AL i = true → AL j = true → listed.getD i false = true → listed.getD j false = true → dstOf ops i = some t → dstOf ops j = some u → a.tmps[t]?.getD undef ≠ a.tmps[u]?.getD undef
  cl : ∀ i o, ops[i]? = some o → listed.getD i false = true → ∀ d, depOn o d = true → listed.getD d false = true
  la : ∀ j, m ≤ j → j < ops.size → listed.getD j false = false
def LaneDue2 (P : Program) (ops : Array Oper) (Q : Exit → Act → World → Prop) (S : World → Prop) (PR : Nat → Value → World → Prop) (AL : Nat → Bool) (a0 : Act) (w0 : World) (i : Nat) (o : Oper) : Prop :=
  ∀ (a : Act) (w : World), Below w0.heap.size w0 w → S w → (∀ t, noDst ops t = true → a.tmps[t]?.getD undef = a0.tmps[t]?.getD undef) →
    (∀ d t, depOn o d = true → dstOf ops d = some t → PR d (a.tmps[t]?.getD undef) w) →
    Region.wanted o (yielded ops a.tmps) = true ∧ o.wp P a w (fun a' w' => ∃ v, a' = a.put o.dst v ∧ PR i v w' ∧ Below w.heap.size w w' ∧ (AL i = true → v = .pointer (some ⟨w.heap.size, 0, none⟩))) Q
def LaneEnd2 (P : Program) (ops : Array Oper) (Q : Exit → Act → World → Prop) (S : World → Prop) (PR : Nat → Value → World → Prop) (AL : Nat → Bool) (a0 : Act) (w0 : World) (m : Nat) (r : List Oper) : Prop :=
  ∀ (a : Act) (w : World), a.defers = a0.defers → a.tmps.size = a0.tmps.size → Below w0.heap.size w0 w → S w → (∀ t, noDst ops t = true → a.tmps[t]?.getD undef = a0.tmps[t]?.getD undef) →
    (∀ d t, d < m → dstOf ops d = some t → PR d (a.tmps[t]?.getD undef) w) →
    (∀ i j t u, i < m → j < m → i ≠ j → AL i = true → AL j = true → dstOf ops i = some t → dstOf ops j = some u → a.tmps[t]?.getD undef ≠ a.tmps[u]?.getD undef) →
    wpTail P ops Q r a w
theorem tmp_set_eq {xs : Array Value} {i : Nat} {v : Value} (h : i < xs.size) : (xs.setIfInBounds i v)[i]?.getD undef = v := by simp [h]
theorem tmp_set_other {xs : Array Value} {i j : Nat} {v : Value} (h : i ≠ j) : (xs.setIfInBounds i v)[j]?.getD undef = xs[j]?.getD undef := by simp [Array.getElem?_setIfInBounds, h]
theorem dstOf_at {d : Nat} {t : Tmp} (h : dstOf ops d = some t) : ∃ o, ops[d]? = some o ∧ o.dst = some t := Option.bind_eq_some_iff.1 h
theorem lanes2_any (hz : waitsBack ops = true) (hc : coverOkM m ops = true) (hd : dstOkM a0.tmps.size m ops = true) (hm : m < ops.size) (hS : ∀ w w', S w → Below w.heap.size w w' → S w') (hP : ∀ i v w w', PR i v w → Below w.heap.size w w' → PR i v w')
    (hA : ∀ i v w, AL i = true → PR i v w → ∃ g, v = .pointer (some ⟨g, 0, none⟩) ∧ g < w.heap.size)
    (hl : ∀ i o, i < m → ops[i]? = some o → LaneDue2 P ops Q S PR AL a0 w0 i o) (hlast : LaneEnd2 P ops Q S PR AL a0 w0 m (ops.toList.drop m)) :
    ∀ fuel listed a w, LaneInv2 ops S PR AL a0 w0 m listed a w → ((List.range ops.size).filter fun i => !listed.getD i true).length ≤ fuel → wpAny P .any ops Q fuel listed a w := by
  have notdone : ∀ listed a w, LaneInv2 ops S PR AL a0 w0 m listed a w → Region.ready .any ops listed ≠ [] := by
    intro listed a w h hr
    have hall : ∀ i, i < ops.size → listed.getD i false = true := by
      intro i
      induction i using Nat.strongRecOn with
      | _ i ih =>
        intro hi
        by_cases hli : listed.getD i true = true
        · rw [getD_in (by rw [h.sz]; exact hi) false true]; exact hli
        · have ho : ops[i]? = some ops[i] := Array.getElem?_eq_getElem hi
          have : i ∈ Region.ready .any ops listed := mem_ready.2 ⟨by simpa using hli, _, ho, fun e he _ => ih e.on (waitsBack_spec hz ho e he) (by have := waitsBack_spec hz ho e he; omega)⟩
          rw [hr] at this
          cases this
    have := hall m hm
    rw [h.la m (Nat.le_refl _) hm] at this
    cases this
  intro fuel
  induction fuel with
  | zero =>
    intro listed a w h hf
    exfalso
    apply notdone _ _ _ h
    apply List.eq_nil_iff_forall_not_mem.2
    intro i hi
    obtain ⟨h1, o, ho, -⟩ := mem_ready.1 hi
    have h0 := List.eq_nil_of_length_eq_zero (Nat.le_zero.1 hf)
    have : i ∈ (List.range ops.size).filter fun i => !listed.getD i true := List.mem_filter.2 ⟨List.mem_range.2 (Array.getElem?_eq_some_iff.1 ho).1, by simp [h1]⟩
    rw [h0] at this
    cases this
  | succ fuel ih =>
    intro listed a w h hf
    -- are all lanes through?
    by_cases hfull : ∀ i, i < m → listed.getD i false = true
    · have htail := hlast a w h.ds h.ts h.bl h.s h.un (fun d t hd' ht => h.pr d t hd' (hfull d hd') ht) (fun i j t u hi hj hne ai aj ht hu => h.ne i j t u hi hj hne ai aj (hfull i hi) (hfull j hj) ht hu)
      refine wpAny_tail hz hc _ m (fuel + 1) listed a w rfl (Nat.le_refl _) h.sz (fun i hi => ⟨fun k => ?_, fun k => hfull i k⟩) ?_ htail
      · rcases Nat.lt_or_ge i m with q | q
        · exact q
        · rw [h.la i q hi] at k; cases k
      · refine Nat.le_trans ?_ hf
        have e : (List.range ops.size).filter (fun i => !listed.getD i true) = (List.range ops.size).drop m := by
          have e1 : List.range ops.size = (List.range ops.size).take m ++ (List.range ops.size).drop m := (List.take_append_drop _ _).symm
          conv => lhs; rw [e1]
          rw [List.filter_append]
          have f1 : ((List.range ops.size).take m).filter (fun i => !listed.getD i true) = [] := by
            apply List.filter_eq_nil_iff.2
            intro i hi
            rw [List.take_range] at hi
            have hi' := List.mem_range.1 hi
            have : listed.getD i true = true := by rw [getD_in (by rw [h.sz]; omega) true false]; exact hfull i (by omega)
            simp [this]
          have f2 : ((List.range ops.size).drop m).filter (fun i => !listed.getD i true) = (List.range ops.size).drop m := by
            apply List.filter_eq_self.2
            intro i hi
            obtain ⟨q, hq1, hq2⟩ := List.mem_iff_getElem.1 hi
            simp at hq1 hq2
            have : listed.getD i true = false := by rw [getD_in (by rw [h.sz]; omega) true false]; exact h.la i (by omega) (by omega)
            simp [this]
          rw [f1, f2, List.nil_append]
        rw [e]
        simp
    refine ⟨fun hr => absurd hr (notdone _ _ _ h), fun i hi => ?_⟩
    obtain ⟨h1, o, ho, hw⟩ := mem_ready.1 hi
    have hil := (Array.getElem?_eq_some_iff.1 ho).1
    have hw' : ∀ d, depOn o d = true → listed.getD d false = true := fun d hd' => by
      obtain ⟨e, he, hb, rfl⟩ := depOn_spec hd'
      exact hw e he hb
    have hi' : i < m := by
      rcases Nat.lt_or_ge i m with q | q
      · exact q
      · exfalso
        rcases Nat.lt_or_ge m i with q2 | q2
        · have := hw' (i - 1) (tail_spec hc q2 ho)
          rw [h.la (i - 1) (by omega) (by omega)] at this
          cases this
        · obtain rfl : i = m := by omega
          apply hfull
          have key : ∀ k x, x < i → i - x ≤ k → listed.getD x false = true := by
            intro k
            induction k with
            | zero => intro x hx hk; omega
            | succ k ihk =>
              intro x hx hk
              obtain ⟨j, oj, hxj, hjm, hoj, hdj⟩ := coverOkM_spec hc hx
              by_cases hj : j = i
              · subst hj
                rw [ho] at hoj; cases hoj
                exact hw' x hdj
              · exact h.cl j oj hoj (ihk j (by omega) (by omega)) x hdj
          exact fun x hx => key _ x hx (Nat.le_refl _)
    obtain ⟨t, ht, htn, hto⟩ := dstOkM_spec hd hi' ho
    have hdst : dstOf ops i = some t := by unfold dstOf; rw [ho]; exact ht
    have hoth : ∀ j u, j ≠ i → dstOf ops j = some u → t ≠ u := fun j u hj hu e => by
      obtain ⟨oj, hoj, hu'⟩ := dstOf_at hu
      exact hto j oj hj hoj (by rw [hu', e])
    have hbase : ∀ d, d < i → d < m := fun d hd' => by omega
    obtain ⟨hwant, hstep⟩ := hl i o hi' ho a w h.bl h.s h.un (fun d u hdo hdu => h.pr d u (by
      obtain ⟨e, he, hb, rfl⟩ := depOn_spec hdo
      have := waitsBack_spec hz ho e he
      omega) (hw' d hdo) hdu)
    unfold wpOp
    rw [ho]
    simp only [hwant, if_true]
    refine .inl (Oper.wp_mono (fun a' w' => ?_) hstep)
    rintro ⟨v, rfl, hv, hb, hal⟩
    rw [ht]
    refine ih _ _ _ ⟨?_, ?_, ?_, ?_, ?_, ?_, ?_, ?_, ?_, ?_⟩ ?_
    · simpa using h.sz
    · exact h.ds
    · simpa [Act.put] using h.ts
    · exact below_next h.bl h.bl.size hb
    · exact hS _ _ h.s hb
    · intro t' hno
      have hne : t ≠ t' := fun e => noDst_spec hno i o ho (by rw [ht, e])
      simp only [Act.put]
      rw [tmp_set_other hne]
      exact h.un t' hno
    · intro d u hdm hld hdu
      simp only [Act.put]
      by_cases e : d = i
      · subst e
        rw [hdst] at hdu; cases hdu
        rw [tmp_set_eq (by rw [h.ts]; exact htn)]
        exact hv
      · rw [tmp_set_other (hoth d u e hdu)]
        rw [getD_set_other (Ne.symm e)] at hld
        exact hP _ _ _ _ (h.pr d u hdm hld hdu) hb
    · intro x y t1 t2 hx hy hxy ax ay lx ly d1 d2
      simp only [Act.put]
      by_cases ex : x = i
      · subst ex
        rw [hdst] at d1; cases d1
        have ey : y ≠ x := Ne.symm hxy
        rw [tmp_set_eq (by rw [h.ts]; exact htn), tmp_set_other (hoth y t2 ey d2)]
        rw [getD_set_other hxy] at ly
        obtain ⟨g, hg, hlt⟩ := hA y _ w ay (h.pr y t2 hy ly d2)
        rw [hal ax, hg]
        intro q
        simp only [Value.pointer.injEq, Option.some.injEq, Addr.mk.injEq] at q
        omega
      · by_cases ey : y = i
        · subst ey
          rw [hdst] at d2; cases d2
          rw [tmp_set_eq (by rw [h.ts]; exact htn), tmp_set_other (hoth x t1 ex d1)]
          rw [getD_set_other (Ne.symm ex)] at lx
          obtain ⟨g, hg, hlt⟩ := hA x _ w ax (h.pr x t1 hx lx d1)
          rw [hal ay, hg]
          intro q
          simp only [Value.pointer.injEq, Option.some.injEq, Addr.mk.injEq] at q
          omega
        · rw [tmp_set_other (hoth x t1 ex d1), tmp_set_other (hoth y t2 ey d2)]
          rw [getD_set_other (Ne.symm ex)] at lx
          rw [getD_set_other (Ne.symm ey)] at ly
          exact h.ne x y t1 t2 hx hy hxy ax ay lx ly d1 d2
    · intro j oj hoj hlj d hdj
      by_cases e1 : i = d
      · subst e1; exact getD_set_eq (by rw [h.sz]; exact hil)
      · rw [getD_set_other e1]
        by_cases e2 : i = j
        · subst e2
          rw [ho] at hoj; cases hoj
          exact hw' d hdj
        · rw [getD_set_other e2] at hlj
          exact h.cl j oj hoj hlj d hdj
    · intro j hj hjs
      rw [getD_set_other (by omega : i ≠ j)]; exact h.la j hj hjs
    · have := filter_lt_len (p := fun i => !listed.getD i true) (q := fun j => !(listed.setIfInBounds i true).getD j true) (i := i) (fun x hx => by
        by_cases e : i = x
        · subst e; rw [getD_set_eq (by rw [h.sz]; exact hil)] at hx; simp at hx
        · rw [getD_set_other e] at hx; exact hx) (by simp [h1]) (by rw [getD_set_eq (by rw [h.sz]; exact hil)]; simp) (List.range ops.size) (List.mem_range.2 hil)
      omega
def AllLanes2 (F : Nat → Oper → Prop) (G : List Oper → Prop) : Nat → Nat → List Oper → Prop
  | 0, _, r => G r
  | _ + 1, _, [] => True
  | k + 1, i, o :: rest => F i o ∧ AllLanes2 F G k (i + 1) rest
theorem AllLanes2.at_ {F : Nat → Oper → Prop} {G : List Oper → Prop} : ∀ (k i : Nat) (l : List Oper), k ≤ l.length → AllLanes2 F G k i l → (∀ j o, j < k → l[j]? = some o → F (i + j) o) ∧ G (l.drop k)
  | 0, i, l, _, h => ⟨fun j o hj => by omega, by simpa [AllLanes2] using h⟩
  | k + 1, i, [], hk, h => by simp at hk
  | k + 1, i, o :: rest, hk, h => by
    obtain ⟨h1, h2⟩ := AllLanes2.at_ k (i + 1) rest (by simpa using hk) h.2
    refine ⟨fun j x hj hx => ?_, by simpa using h2⟩
    cases j with
    | zero => simp at hx; subst hx; exact h.1
    | succ j =>
      have := h1 j x (by omega) (by simpa using hx)
      rw [show i + (j + 1) = i + 1 + j from by omega]
      exact this
theorem wp_lanes2 {id : Nat} (hm : P.follows .mixedOrders = true) (m : Nat) (S : World → Prop) (PR : Nat → Value → World → Prop) (AL : Nat → Bool) (hz : waitsBack ops = true) (hc : coverOkM m ops = true) (n : Nat) (hn : a0.tmps.size = n) (hd : dstOkM n m ops = true) (hml : m < ops.size) (hS : ∀ w w', S w → Below w.heap.size w w' → S w') (hP : ∀ i v w w', PR i v w → Below w.heap.size w w' → PR i v w')
    (hA : ∀ i v w, AL i = true → PR i v w → ∃ g, v = .pointer (some ⟨g, 0, none⟩) ∧ g < w.heap.size) (h0 : S w0.drew)
    (h : AllLanes2 (LaneDue2 P ops Q S PR AL a0 w0.drew) (LaneEnd2 P ops Q S PR AL a0 w0.drew m) m 0 ops.toList) : (Code.region id ops true).wp P Q a0 w0 := by
  subst hn
  obtain ⟨h1, h2⟩ := AllLanes2.at_ m 0 _ (by simp; omega) h
  refine wp_region_any hm ?_
  refine lanes2_any (w0 := w0.drew) hz hc hd hml hS hP hA (fun i o hi ho => ?_) h2 _ _ _ _ ⟨by simp, rfl, rfl, Below.refl _ _, h0, fun _ _ => rfl, fun d t _ hlt => ?_, fun i j t u _ _ _ _ _ hlt => ?_, fun i o ho hlt => ?_, fun j _ hj => ?_⟩ ?_
  · have := h1 i o hi (by simpa using ho)
    rwa [Nat.zero_add] at this
  · exfalso
    rw [Array.getD_eq_getD_getElem?, Array.getElem?_replicate] at hlt
    split at hlt <;> simp at hlt
  · exfalso
    rw [Array.getD_eq_getD_getElem?, Array.getElem?_replicate] at hlt
    split at hlt <;> simp at hlt
  · exfalso
    rw [Array.getD_eq_getD_getElem?, Array.getElem?_replicate] at hlt
    split at hlt <;> simp at hlt
  · rw [Array.getD_eq_getD_getElem?, Array.getElem?_replicate]
    split <;> rfl
  · exact Nat.le_trans (List.length_filter_le _ _) (by simp)
end
/-- An array of known size, slot by slot. -/
theorem arr_map (xs : Array Value) (n : Nat) (h : xs.size = n) : xs = ((List.range n).map fun i => xs[i]?.getD undef).toArray := by
  apply Array.ext
  · simp [h]
  · intro i h1 h2
    simp [h1]
end Go.Proofs.YtbfgoojpbhlboaaDoor

/- A region that draws: each operation a lane of its own, in whatever order, under a relation of worlds that each keeps. No condition. -/
set_option linter.unusedVariables false
set_option linter.unusedSimpArgs false
namespace Go.Proofs.YtbfgoojpbhlboaaDoor
open Go Go.RowKit

/-- Each operation waits for earlier ones alone, as far as it is bound to wait. -/
def backB (ops : Array Oper) : Bool := (List.range ops.size).all fun i => match ops[i]? with
  | some o => o.after.all fun e => !Region.binds .any e || decide (e.on < i)
  | none => true
theorem backB_spec {ops : Array Oper} (h : backB ops = true) {i : Nat} {o : Oper} (ho : ops[i]? = some o) : ∀ e ∈ o.after, Region.binds .any e = true → e.on < i := by
  intro e he hb
  unfold backB at h
  rw [List.all_eq_true] at h
  have h1 := h i (List.mem_range.2 (Array.getElem?_eq_some_iff.1 ho).1)
  simp only [ho] at h1
  rw [Array.all_eq_true_iff_forall_mem] at h1
  have h2 := h1 e he
  rw [hb] at h2
  simpa using h2
/-- All targets are different slots, and there. -/
def dstOkA (n : Nat) (ops : Array Oper) : Bool := (List.range ops.size).all fun i => match ops[i]? with
  | some o => (match o.dst with | some t => decide (t < n) && (List.range ops.size).all fun j => j == i || (match ops[j]? with | some o' => !(o'.dst == some t) | none => true) | none => true)
  | none => true
theorem dstOkA_spec {n : Nat} {ops : Array Oper} (h : dstOkA n ops = true) {i : Nat} {o : Oper} (ho : ops[i]? = some o) {t : Tmp} (ht : o.dst = some t) : t < n ∧ ∀ j o', j ≠ i → ops[j]? = some o' → o'.dst ≠ some t := by
  unfold dstOkA at h
  rw [List.all_eq_true] at h
  have h1 := h i (List.mem_range.2 (Array.getElem?_eq_some_iff.1 ho).1)
  simp only [ho, ht] at h1
  simp only [Bool.and_eq_true, decide_eq_true_eq, List.all_eq_true] at h1
  refine ⟨h1.1, fun j o' hj ho' => ?_⟩
  have h2 := h1.2 j (List.mem_range.2 (Array.getElem?_eq_some_iff.1 ho').1)
  simp only [ho', Bool.or_eq_true, beq_iff_eq, hj, false_or, Bool.not_eq_true', beq_eq_false_iff_ne] at h2
  exact h2
def valOf (ops : Array Oper) (a : Act) (d : Nat) : Value := match dstOf ops d with
  | some t => a.tmps[t]?.getD undef
  | none => undef
theorem valOf_some {ops : Array Oper} {a : Act} {d t : Nat} (h : dstOf ops d = some t) : valOf ops a d = a.tmps[t]?.getD undef := by unfold valOf; rw [h]
theorem valOf_none {ops : Array Oper} {a : Act} {d : Nat} (h : dstOf ops d = none) : valOf ops a d = undef := by unfold valOf; rw [h]
section
variable {P : Program} {ops : Array Oper} {Q : Exit → Act → World → Prop} {S : World → Prop} {R : World → World → Prop} {PR : Nat → Value → World → Prop} {a0 : Act} {w0 : World}
structure LaneInv3 (ops : Array Oper) (S : World → Prop) (R : World → World → Prop) (PR : Nat → Value → World → Prop) (a0 : Act) (w0 : World) (listed : Array Bool) (a : Act) (w : World) : Prop where
  sz : listed.size = ops.size
  ds : a.defers = a0.defers
  ts : a.tmps.size = a0.tmps.size
  bl : R w0 w
  s : S w
  un : ∀ t, noDst ops t = true → a.tmps[t]?.getD undef = a0.tmps[t]?.getD undef
  pr : ∀ d, d < ops.size → listed.getD d false = true → PR d (valOf ops a d) w
def LaneDue3 (P : Program) (ops : Array Oper) (Q : Exit → Act → World → Prop) (S : World → Prop) (R : World → World → Prop) (PR : Nat → Value → World → Prop) (a0 : Act) (w0 : World) (i : Nat) (o : Oper) : Prop :=
  ∀ (a : Act) (w : World), R w0 w → S w → (∀ t, noDst ops t = true → a.tmps[t]?.getD undef = a0.tmps[t]?.getD undef) →
    (∀ d, depOn o d = true → PR d (valOf ops a d) w) →
    (Region.wanted o (yielded ops a.tmps) = true ∧ o.wp P a w (fun a' w' => ∃ v, a' = a.put o.dst v ∧ (o.dst = none → v = undef) ∧ PR i v w' ∧ R w w') Q) ∨ (Region.wanted o (yielded ops a.tmps) = false ∧ PR i undef w)
def LaneEnd3 (ops : Array Oper) (Q : Exit → Act → World → Prop) (S : World → Prop) (R : World → World → Prop) (PR : Nat → Value → World → Prop) (a0 : Act) (w0 : World) : Prop :=
  ∀ (a : Act) (w : World), a.defers = a0.defers → a.tmps.size = a0.tmps.size → R w0 w → S w → (∀ t, noDst ops t = true → a.tmps[t]?.getD undef = a0.tmps[t]?.getD undef) →
    (∀ d, d < ops.size → PR d (valOf ops a d) w) → Q .normal a w
theorem valOf_put {o : Oper} {a : Act} {i : Nat} {v : Value} (ho : ops[i]? = some o) (hd : dstOkA a.tmps.size ops = true) (hv : o.dst = none → v = undef) (d : Nat) : valOf ops (a.put o.dst v) d = if d = i then v else valOf ops a d := by
  have hdst : dstOf ops i = o.dst := by unfold dstOf; rw [ho]; rfl
  cases hod : o.dst with
  | none =>
    simp only [Act.put]
    by_cases e : d = i
    · subst e
      rw [if_pos rfl, valOf_none (hdst.trans hod), hv hod]
    · rw [if_neg e]
  | some t =>
    obtain ⟨htn, hto⟩ := dstOkA_spec hd ho hod
    by_cases e : d = i
    · subst e
      rw [if_pos rfl, valOf_some (hdst.trans hod)]
      simp only [Act.put]
      exact tmp_set_eq htn
    · rw [if_neg e]
      cases hdd : dstOf ops d with
      | none => rw [valOf_none hdd, valOf_none hdd]
      | some u =>
        rw [valOf_some hdd, valOf_some hdd]
        simp only [Act.put]
        obtain ⟨od, hod', hu⟩ := dstOf_at hdd
        exact tmp_set_other fun q => hto d od e hod' (by rw [hu, q])
theorem lanes3_any (hz : backB ops = true) (hd : dstOkA a0.tmps.size ops = true) (hR : ∀ a b c, R a b → R b c → R a c) (hRr : ∀ a, R a a) (hS : ∀ w w', S w → R w w' → S w') (hP : ∀ i v w w', PR i v w → R w w' → PR i v w')
    (hl : ∀ i o, ops[i]? = some o → LaneDue3 P ops Q S R PR a0 w0 i o) (hlast : LaneEnd3 ops Q S R PR a0 w0) :
    ∀ fuel listed a w, LaneInv3 ops S R PR a0 w0 listed a w → ((List.range ops.size).filter fun i => !listed.getD i true).length ≤ fuel → wpAny P .any ops Q fuel listed a w := by
  have full : ∀ listed a w, LaneInv3 ops S R PR a0 w0 listed a w → Region.ready .any ops listed = [] → ∀ i, i < ops.size → listed.getD i false = true := by
    intro listed a w h hr i
    induction i using Nat.strongRecOn with
    | _ i ih =>
      intro hi
      by_cases hli : listed.getD i true = true
      · rw [getD_in (by rw [h.sz]; exact hi) false true]; exact hli
      · have ho : ops[i]? = some ops[i] := Array.getElem?_eq_getElem hi
        have : i ∈ Region.ready .any ops listed := mem_ready.2 ⟨by simpa using hli, _, ho, fun e he hb => ih e.on (backB_spec hz ho e he hb) (by have := backB_spec hz ho e he hb; omega)⟩
        rw [hr] at this
        cases this
  have done : ∀ fuel listed a w, LaneInv3 ops S R PR a0 w0 listed a w → (∀ i, i < ops.size → listed.getD i false = true) → wpAny P .any ops Q fuel listed a w := by
    intro fuel listed a w h hall
    refine wpAny_full (fun i hi => ?_) (hlast a w h.ds h.ts h.bl h.s h.un fun d hd' => h.pr d hd' (hall d hd'))
    rw [getD_in (by rw [h.sz]; exact hi) true false]
    exact hall i hi
  intro fuel
  induction fuel with
  | zero =>
    intro listed a w h hf
    refine done _ _ _ _ h (full _ _ _ h ?_)
    apply List.eq_nil_iff_forall_not_mem.2
    intro i hi
    obtain ⟨h1, o, ho, -⟩ := mem_ready.1 hi
    have h0 := List.eq_nil_of_length_eq_zero (Nat.le_zero.1 hf)
    have : i ∈ (List.range ops.size).filter fun i => !listed.getD i true := List.mem_filter.2 ⟨List.mem_range.2 (Array.getElem?_eq_some_iff.1 ho).1, by simp [h1]⟩
    rw [h0] at this
    cases this
  | succ fuel ih =>
    intro listed a w h hf
    by_cases hfull : Region.ready .any ops listed = []
    · exact done _ _ _ _ h (full _ _ _ h hfull)
    refine ⟨fun hr => absurd hr hfull, fun i hi => ?_⟩
    obtain ⟨h1, o, ho, hw⟩ := mem_ready.1 hi
    have hil := (Array.getElem?_eq_some_iff.1 ho).1
    have hdep : ∀ d, depOn o d = true → PR d (valOf ops a d) w := fun d hd' => by
      obtain ⟨e, he, hb, rfl⟩ := depOn_spec hd'
      exact h.pr _ (by have := backB_spec hz ho e he hb; omega) (hw e he hb)
    have hda : dstOkA a.tmps.size ops = true := by rw [h.ts]; exact hd
    have next : ∀ v w', (o.dst = none → v = undef) → PR i v w' → R w w' → LaneInv3 ops S R PR a0 w0 (listed.setIfInBounds i true) (a.put o.dst v) w' := by
      intro v w' hvu hv hb
      have hvo := valOf_put (a := a) (v := v) ho hda hvu
      refine ⟨by simpa using h.sz, ?_, ?_, hR _ _ _ h.bl hb, hS _ _ h.s hb, ?_, ?_⟩
      · cases o.dst <;> exact h.ds
      · have := h.ts
        cases o.dst <;> simpa [Act.put] using this
      · intro t' hno
        cases hod : o.dst with
        | none => exact h.un t' hno
        | some t =>
          have hne : t ≠ t' := fun e => noDst_spec hno i o ho (by rw [hod, e])
          simp only [Act.put]
          rw [tmp_set_other hne]
          exact h.un t' hno
      · intro d hdm hld
        rw [hvo]
        by_cases e : d = i
        · rw [if_pos e, e]; exact hv
        · rw [if_neg e]
          rw [getD_set_other (Ne.symm e)] at hld
          exact hP _ _ _ _ (h.pr d hdm hld) hb
    have less : ((List.range ops.size).filter fun j => !(listed.setIfInBounds i true).getD j true).length ≤ fuel := by
      have := filter_lt_len (p := fun i => !listed.getD i true) (q := fun j => !(listed.setIfInBounds i true).getD j true) (i := i) (fun x hx => by
        by_cases e : i = x
        · subst e; rw [getD_set_eq (by rw [h.sz]; exact hil)] at hx; simp at hx
        · rw [getD_set_other e] at hx; exact hx) (by simp [h1]) (by rw [getD_set_eq (by rw [h.sz]; exact hil)]; simp) (List.range ops.size) (List.mem_range.2 hil)
      omega
    unfold wpOp
    rw [ho]
    rcases hl i o ho a w h.bl h.s h.un hdep with ⟨hwant, hstep⟩ | ⟨hwant, hpr⟩
    · simp only [hwant, if_true]
      refine .inl (Oper.wp_mono (fun a' w' => ?_) hstep)
      rintro ⟨v, rfl, hvu, hv, hb⟩
      exact ih _ _ _ (next v w' hvu hv hb) less
    · simp only [hwant, Bool.false_eq_true, if_false]
      exact ih _ _ _ (next undef w (fun _ => rfl) hpr (hRr w)) less
def AllLanes3 (F : Nat → Oper → Prop) (G : Prop) : Nat → List Oper → Prop
  | _, [] => G
  | i, o :: rest => F i o ∧ AllLanes3 F G (i + 1) rest
theorem AllLanes3.at_ {F : Nat → Oper → Prop} {G : Prop} : ∀ (i : Nat) (l : List Oper), AllLanes3 F G i l → (∀ j o, l[j]? = some o → F (i + j) o) ∧ G
  | i, [], h => ⟨fun j o hj => by simp at hj, h⟩
  | i, o :: rest, h => by
    obtain ⟨h1, h2⟩ := AllLanes3.at_ (i + 1) rest h.2
    refine ⟨fun j x hx => ?_, h2⟩
    cases j with
    | zero => simp at hx; subst hx; exact h.1
    | succ j =>
      have := h1 j x (by simpa using hx)
      rw [show i + (j + 1) = i + 1 + j from by omega]
      exact this
theorem wp_lanes3 {id : Nat} (hm : P.follows .mixedOrders = true) (S : World → Prop) (R : World → World → Prop) (PR : Nat → Value → World → Prop) (hz : backB ops = true) (n : Nat) (hn : a0.tmps.size = n) (hd : dstOkA n ops = true) (hR : ∀ a b c, R a b → R b c → R a c) (hRr : ∀ a, R a a) (hS : ∀ w w', S w → R w w' → S w') (hP : ∀ i v w w', PR i v w → R w w' → PR i v w') (h0 : S w0.drew)
    (h : AllLanes3 (LaneDue3 P ops Q S R PR a0 w0.drew) (LaneEnd3 ops Q S R PR a0 w0.drew) 0 ops.toList) : (Code.region id ops true).wp P Q a0 w0 := by
  subst hn
  obtain ⟨h1, h2⟩ := AllLanes3.at_ 0 _ h
  refine wp_region_any hm ?_
  refine lanes3_any (w0 := w0.drew) hz hd hR hRr hS hP (fun i o ho => ?_) h2 _ _ _ _ ⟨by simp, rfl, rfl, hRr _, h0, fun _ _ => rfl, fun d _ hlt => ?_⟩ ?_
  · have := h1 i o (by simpa using ho)
    rwa [Nat.zero_add] at this
  · exfalso
    rw [Array.getD_eq_getD_getElem?, Array.getElem?_replicate] at hlt
    split at hlt <;> simp at hlt
  · exact Nat.le_trans (List.length_filter_le _ _) (by simp)
end
end Go.Proofs.YtbfgoojpbhlboaaDoor

/- A region that draws: lanes that each keep what the others stand for, by a relation of its own, then a tail in its order. No condition. -/
set_option linter.unusedVariables false
set_option linter.unusedSimpArgs false
namespace Go.Proofs.YtbfgoojpbhlboaaDoor
open Go Go.RowKit

def noDstM (m : Nat) (ops : Array Oper) (t : Tmp) : Bool := (List.range m).all fun j => !(dstOf ops j == some t)
theorem noDstM_spec {m : Nat} {ops : Array Oper} {t : Tmp} (h : noDstM m ops t = true) {i : Nat} {o : Oper} (hi : i < m) (ho : ops[i]? = some o) : o.dst ≠ some t := by
  unfold noDstM at h
  rw [List.all_eq_true] at h
  have h1 := h i (List.mem_range.2 hi)
  unfold dstOf at h1
  rw [ho] at h1
  simpa using h1
section
variable {P : Program} {ops : Array Oper} {Q : Exit → Act → World → Prop} {S : World → Prop} {R : Nat → World → World → Prop} {PR : Nat → Value → World → Prop} {a0 : Act} {w0 : World} {m : Nat}
structure LaneInv5 (ops : Array Oper) (S : World → Prop) (PR : Nat → Value → World → Prop) (a0 : Act) (m : Nat) (listed : Array Bool) (a : Act) (w : World) : Prop where
  sz : listed.size = ops.size
  ds : a.defers = a0.defers
  ts : a.tmps.size = a0.tmps.size
  s : S w
  un : ∀ t, noDstM m ops t = true → a.tmps[t]?.getD undef = a0.tmps[t]?.getD undef
  pr : ∀ d t, d < m → listed.getD d false = true → dstOf ops d = some t → PR d (a.tmps[t]?.getD undef) w
  cl : ∀ i o, ops[i]? = some o → listed.getD i false = true → ∀ d, depOn o d = true → listed.getD d false = true
  la : ∀ j, m ≤ j → j < ops.size → listed.getD j false = false
def LaneDue5 (P : Program) (ops : Array Oper) (Q : Exit → Act → World → Prop) (S : World → Prop) (R : Nat → World → World → Prop) (PR : Nat → Value → World → Prop) (a0 : Act) (m i : Nat) (o : Oper) : Prop :=
  ∀ (a : Act) (w : World), S w → (∀ t, noDstM m ops t = true → a.tmps[t]?.getD undef = a0.tmps[t]?.getD undef) →
    (∀ d t, depOn o d = true → dstOf ops d = some t → PR d (a.tmps[t]?.getD undef) w) →
    Region.wanted o (yielded ops a.tmps) = true ∧ o.wp P a w (fun a' w' => ∃ v, a' = a.put o.dst v ∧ PR i v w' ∧ R i w w') Q
def LaneEnd5 (P : Program) (ops : Array Oper) (Q : Exit → Act → World → Prop) (S : World → Prop) (PR : Nat → Value → World → Prop) (a0 : Act) (m : Nat) (r : List Oper) : Prop :=
  ∀ (a : Act) (w : World), a.defers = a0.defers → a.tmps.size = a0.tmps.size → S w → (∀ t, noDstM m ops t = true → a.tmps[t]?.getD undef = a0.tmps[t]?.getD undef) →
    (∀ d t, d < m → dstOf ops d = some t → PR d (a.tmps[t]?.getD undef) w) →
    wpTail P ops Q r a w
theorem lanes5_any (hz : waitsBack ops = true) (hc : coverOkM m ops = true) (hd : dstOkM a0.tmps.size m ops = true) (hm : m < ops.size) (hS : ∀ i w w', S w → R i w w' → S w') (hP : ∀ i j v w w', i ≠ j → PR i v w → R j w w' → PR i v w')
    (hl : ∀ i o, i < m → ops[i]? = some o → LaneDue5 P ops Q S R PR a0 m i o) (hlast : LaneEnd5 P ops Q S PR a0 m (ops.toList.drop m)) :
    ∀ fuel listed a w, LaneInv5 ops S PR a0 m listed a w → ((List.range ops.size).filter fun i => !listed.getD i true).length ≤ fuel → wpAny P .any ops Q fuel listed a w := by
  have notdone : ∀ listed a w, LaneInv5 ops S PR a0 m listed a w → Region.ready .any ops listed ≠ [] := by
    intro listed a w h hr
    have hall : ∀ i, i < ops.size → listed.getD i false = true := by
      intro i
      induction i using Nat.strongRecOn with
      | _ i ih =>
        intro hi
        by_cases hli : listed.getD i true = true
        · rw [getD_in (by rw [h.sz]; exact hi) false true]; exact hli
        · have ho : ops[i]? = some ops[i] := Array.getElem?_eq_getElem hi
          have : i ∈ Region.ready .any ops listed := mem_ready.2 ⟨by simpa using hli, _, ho, fun e he _ => ih e.on (waitsBack_spec hz ho e he) (by have := waitsBack_spec hz ho e he; omega)⟩
          rw [hr] at this
          cases this
    have := hall m hm
    rw [h.la m (Nat.le_refl _) hm] at this
    cases this
  intro fuel
  induction fuel with
  | zero =>
    intro listed a w h hf
    exfalso
    apply notdone _ _ _ h
    apply List.eq_nil_iff_forall_not_mem.2
    intro i hi
    obtain ⟨h1, o, ho, -⟩ := mem_ready.1 hi
    have h0 := List.eq_nil_of_length_eq_zero (Nat.le_zero.1 hf)
    have : i ∈ (List.range ops.size).filter fun i => !listed.getD i true := List.mem_filter.2 ⟨List.mem_range.2 (Array.getElem?_eq_some_iff.1 ho).1, by simp [h1]⟩
    rw [h0] at this
    cases this
  | succ fuel ih =>
    intro listed a w h hf
    -- are all lanes through?
    by_cases hfull : ∀ i, i < m → listed.getD i false = true
    · have htail := hlast a w h.ds h.ts h.s h.un (fun d t hd' ht => h.pr d t hd' (hfull d hd') ht)
      refine wpAny_tail hz hc _ m (fuel + 1) listed a w rfl (Nat.le_refl _) h.sz (fun i hi => ⟨fun k => ?_, fun k => hfull i k⟩) ?_ htail
      · rcases Nat.lt_or_ge i m with q | q
        · exact q
        · rw [h.la i q hi] at k; cases k
      · refine Nat.le_trans ?_ hf
        have e : (List.range ops.size).filter (fun i => !listed.getD i true) = (List.range ops.size).drop m := by
          have e1 : List.range ops.size = (List.range ops.size).take m ++ (List.range ops.size).drop m := (List.take_append_drop _ _).symm
          conv => lhs; rw [e1]
          rw [List.filter_append]
          have f1 : ((List.range ops.size).take m).filter (fun i => !listed.getD i true) = [] := by
            apply List.filter_eq_nil_iff.2
            intro i hi
            rw [List.take_range] at hi
            have hi' := List.mem_range.1 hi
            have : listed.getD i true = true := by rw [getD_in (by rw [h.sz]; omega) true false]; exact hfull i (by omega)
            simp [this]
          have f2 : ((List.range ops.size).drop m).filter (fun i => !listed.getD i true) = (List.range ops.size).drop m := by
            apply List.filter_eq_self.2
            intro i hi
            obtain ⟨q, hq1, hq2⟩ := List.mem_iff_getElem.1 hi
            simp at hq1 hq2
            have : listed.getD i true = false := by rw [getD_in (by rw [h.sz]; omega) true false]; exact h.la i (by omega) (by omega)
            simp [this]
          rw [f1, f2, List.nil_append]
        rw [e]
        simp
    refine ⟨fun hr => absurd hr (notdone _ _ _ h), fun i hi => ?_⟩
    obtain ⟨h1, o, ho, hw⟩ := mem_ready.1 hi
    have hil := (Array.getElem?_eq_some_iff.1 ho).1
    have hw' : ∀ d, depOn o d = true → listed.getD d false = true := fun d hd' => by
      obtain ⟨e, he, hb, rfl⟩ := depOn_spec hd'
      exact hw e he hb
    have hi' : i < m := by
      rcases Nat.lt_or_ge i m with q | q
      · exact q
      · exfalso
        rcases Nat.lt_or_ge m i with q2 | q2
        · have := hw' (i - 1) (tail_spec hc q2 ho)
          rw [h.la (i - 1) (by omega) (by omega)] at this
          cases this
        · obtain rfl : i = m := by omega
          apply hfull
          have key : ∀ k x, x < i → i - x ≤ k → listed.getD x false = true := by
            intro k
            induction k with
            | zero => intro x hx hk; omega
            | succ k ihk =>
              intro x hx hk
              obtain ⟨j, oj, hxj, hjm, hoj, hdj⟩ := coverOkM_spec hc hx
              by_cases hj : j = i
              · subst hj
                rw [ho] at hoj; cases hoj
                exact hw' x hdj
              · exact h.cl j oj hoj (ihk j (by omega) (by omega)) x hdj
          exact fun x hx => key _ x hx (Nat.le_refl _)
    obtain ⟨t, ht, htn, hto⟩ := dstOkM_spec hd hi' ho
    have hdst : dstOf ops i = some t := by unfold dstOf; rw [ho]; exact ht
    have hoth : ∀ j u, j ≠ i → dstOf ops j = some u → t ≠ u := fun j u hj hu e => by
      obtain ⟨oj, hoj, hu'⟩ := dstOf_at hu
      exact hto j oj hj hoj (by rw [hu', e])
    have hbase : ∀ d, d < i → d < m := fun d hd' => by omega
    obtain ⟨hwant, hstep⟩ := hl i o hi' ho a w h.s h.un (fun d u hdo hdu => h.pr d u (by
      obtain ⟨e, he, hb, rfl⟩ := depOn_spec hdo
      have := waitsBack_spec hz ho e he
      omega) (hw' d hdo) hdu)
    unfold wpOp
    rw [ho]
    simp only [hwant, if_true]
    refine .inl (Oper.wp_mono (fun a' w' => ?_) hstep)
    rintro ⟨v, rfl, hv, hb⟩
    rw [ht]
    refine ih _ _ _ ⟨?_, ?_, ?_, ?_, ?_, ?_, ?_, ?_⟩ ?_
    · simpa using h.sz
    · exact h.ds
    · simpa [Act.put] using h.ts
    · exact hS _ _ _ h.s hb
    · intro t' hno
      have hne : t ≠ t' := fun e => noDstM_spec hno hi' ho (by rw [ht, e])
      simp only [Act.put]
      rw [tmp_set_other hne]
      exact h.un t' hno
    · intro d u hdm hld hdu
      simp only [Act.put]
      by_cases e : d = i
      · subst e
        rw [hdst] at hdu; cases hdu
        rw [tmp_set_eq (by rw [h.ts]; exact htn)]
        exact hv
      · rw [tmp_set_other (hoth d u e hdu)]
        rw [getD_set_other (Ne.symm e)] at hld
        exact hP _ _ _ _ _ e (h.pr d u hdm hld hdu) hb
    · intro j oj hoj hlj d hdj
      by_cases e1 : i = d
      · subst e1; exact getD_set_eq (by rw [h.sz]; exact hil)
      · rw [getD_set_other e1]
        by_cases e2 : i = j
        · subst e2
          rw [ho] at hoj; cases hoj
          exact hw' d hdj
        · rw [getD_set_other e2] at hlj
          exact h.cl j oj hoj hlj d hdj
    · intro j hj hjs
      rw [getD_set_other (by omega : i ≠ j)]; exact h.la j hj hjs
    · have := filter_lt_len (p := fun i => !listed.getD i true) (q := fun j => !(listed.setIfInBounds i true).getD j true) (i := i) (fun x hx => by
        by_cases e : i = x
        · subst e; rw [getD_set_eq (by rw [h.sz]; exact hil)] at hx; simp at hx
        · rw [getD_set_other e] at hx; exact hx) (by simp [h1]) (by rw [getD_set_eq (by rw [h.sz]; exact hil)]; simp) (List.range ops.size) (List.mem_range.2 hil)
      omega
def AllLanes5 (F : Nat → Oper → Prop) (G : List Oper → Prop) : Nat → Nat → List Oper → Prop
  | 0, _, r => G r
  | _ + 1, _, [] => True
  | k + 1, i, o :: rest => F i o ∧ AllLanes5 F G k (i + 1) rest
theorem AllLanes5.at_ {F : Nat → Oper → Prop} {G : List Oper → Prop} : ∀ (k i : Nat) (l : List Oper), k ≤ l.length → AllLanes5 F G k i l → (∀ j o, j < k → l[j]? = some o → F (i + j) o) ∧ G (l.drop k)
  | 0, i, l, _, h => ⟨fun j o hj => by omega, by simpa [AllLanes5] using h⟩
  | k + 1, i, [], hk, h => by simp at hk
  | k + 1, i, o :: rest, hk, h => by
    obtain ⟨h1, h2⟩ := AllLanes5.at_ k (i + 1) rest (by simpa using hk) h.2
    refine ⟨fun j x hj hx => ?_, by simpa using h2⟩
    cases j with
    | zero => simp at hx; subst hx; exact h.1
    | succ j =>
      have := h1 j x (by omega) (by simpa using hx)
      rw [show i + (j + 1) = i + 1 + j from by omega]
      exact this
theorem wp_lanes5 {id : Nat} (hm : P.follows .mixedOrders = true) (m : Nat) (S : World → Prop) (R : Nat → World → World → Prop) (PR : Nat → Value → World → Prop) (hz : waitsBack ops = true) (hc : coverOkM m ops = true) (n : Nat) (hn : a0.tmps.size = n) (hd : dstOkM n m ops = true) (hml : m < ops.size) (hS : ∀ i w w', S w → R i w w' → S w') (hP : ∀ i j v w w', i ≠ j → PR i v w → R j w w' → PR i v w') (h0 : S w0.drew)
    (h : AllLanes5 (LaneDue5 P ops Q S R PR a0 m) (LaneEnd5 P ops Q S PR a0 m) m 0 ops.toList) : (Code.region id ops true).wp P Q a0 w0 := by
  subst hn
  obtain ⟨h1, h2⟩ := AllLanes5.at_ m 0 _ (by simp; omega) h
  refine wp_region_any hm ?_
  refine lanes5_any hz hc hd hml hS hP (fun i o hi ho => ?_) h2 _ _ _ _ ⟨by simp, rfl, rfl, h0, fun _ _ => rfl, fun d t _ hlt => ?_, fun i o ho hlt => ?_, fun j _ hj => ?_⟩ ?_
  · have := h1 i o hi (by simpa using ho)
    rwa [Nat.zero_add] at this
  · exfalso
    rw [Array.getD_eq_getD_getElem?, Array.getElem?_replicate] at hlt
    split at hlt <;> simp at hlt
  · exfalso
    rw [Array.getD_eq_getD_getElem?, Array.getElem?_replicate] at hlt
    split at hlt <;> simp at hlt
  · rw [Array.getD_eq_getD_getElem?, Array.getElem?_replicate]
    split <;> rfl
  · exact Nat.le_trans (List.length_filter_le _ _) (by simp)
end
end Go.Proofs.YtbfgoojpbhlboaaDoor
