/- A region that draws: lanes that only make memory, then a tail in its order; blocks made by different lanes are different. No condition. -/
import Derived.Test.YtbfgoojpbhlboaaDoorLanes
set_option linter.unusedVariables false
set_option linter.unusedSimpArgs false
namespace Go.Proofs.YtbfgoojpbhlboaaDoor
open Go Go.RowKit

def dstOkM (n m : Nat) (ops : Array Oper) : Bool := (List.range m).all fun i => match ops[i]? with
  | some o => (match o.dst with | some t => decide (t < n) && (List.range ops.size).all fun j => j == i || (match ops[j]? with | some o' => !(o'.dst == some t) | none => true) | none => false)
  | none => true
theorem dstOkM_spec {n m : Nat} {ops : Array Oper} (h : dstOkM n m ops = true) {i : Nat} {o : Oper} (hi : i < m) (ho : ops[i]? = some o) : ∃ t, o.dst = some t ∧ t < n ∧ ∀ j o', j ≠ i → ops[j]? = some o' → o'.dst ≠ some t := by
  unfold dstOkM at h
  rw [List.all_eq_true] at h
  have h1 := h i (List.mem_range.2 hi)
  simp only [ho] at h1
  cases hd : o.dst with
  | none => rw [hd] at h1; cases h1
  | some t =>
    rw [hd] at h1
    simp only [Bool.and_eq_true, decide_eq_true_eq, List.all_eq_true] at h1
    refine ⟨t, rfl, h1.1, fun j o' hj ho' => ?_⟩
    have h2 := h1.2 j (List.mem_range.2 (Array.getElem?_eq_some_iff.1 ho').1)
    simp only [ho', Bool.or_eq_true, beq_iff_eq, hj, false_or, Bool.not_eq_true', beq_eq_false_iff_ne] at h2
    exact h2
/-- Each lane is waited for by a later one, or by the tail's first; each of the tail waits for the one ahead. -/
def coverOkM (m : Nat) (ops : Array Oper) : Bool := ((List.range m).all fun i => (List.range (m + 1)).any fun j => decide (i < j) && match ops[j]? with
  | some o => depOn o i
  | none => false) && ((List.range ops.size).all fun j => !decide (m < j) || match ops[j]? with
  | some o => depOn o (j - 1)
  | none => false)
theorem depOn_spec {o : Oper} {d : Nat} (h : depOn o d = true) : ∃ e ∈ o.after, Region.binds .any e = true ∧ e.on = d := by
  obtain ⟨e, he, hb⟩ := Array.any_eq_true'.1 h
  simp only [Bool.and_eq_true, beq_iff_eq] at hb
  exact ⟨e, he, hb.1, hb.2⟩
theorem coverOkM_spec {m : Nat} {ops : Array Oper} (h : coverOkM m ops = true) {i : Nat} (hi : i < m) : ∃ j o, i < j ∧ j ≤ m ∧ ops[j]? = some o ∧ depOn o i = true := by
  unfold coverOkM at h
  rw [Bool.and_eq_true, List.all_eq_true, List.all_eq_true] at h
  have h1 := h.1 i (List.mem_range.2 hi)
  rw [List.any_eq_true] at h1
  obtain ⟨j, hjr, hj⟩ := h1
  rw [Bool.and_eq_true, decide_eq_true_eq] at hj
  cases ho : ops[j]? with
  | none => rw [ho] at hj; exact absurd hj.2 (by simp)
  | some o =>
    rw [ho] at hj
    exact ⟨j, o, hj.1, by have := List.mem_range.1 hjr; omega, ho, hj.2⟩
theorem tail_spec {m : Nat} {ops : Array Oper} (h : coverOkM m ops = true) {j : Nat} {o : Oper} (hj : m < j) (ho : ops[j]? = some o) : depOn o (j - 1) = true := by
  unfold coverOkM at h
  rw [Bool.and_eq_true, List.all_eq_true, List.all_eq_true] at h
  have h1 := h.2 j (List.mem_range.2 (Array.getElem?_eq_some_iff.1 ho).1)
  rw [ho] at h1
  simpa [hj] using h1
/-- The tail, in its order. -/
def wpTail (P : Program) (ops : Array Oper) (Q : Exit → Act → World → Prop) : List Oper → Act → World → Prop
  | [], a, w => Q .normal a w
  | o :: r, a, w => Region.wanted o (yielded ops a.tmps) = true ∧ o.wp P a w (fun a' w' => wpTail P ops Q r a' w') Q
section
variable {P : Program} {ops : Array Oper} {Q : Exit → Act → World → Prop} {S : World → Prop} {PR : Nat → Value → World → Prop} {AL : Nat → Bool} {a0 : Act} {w0 : World} {m : Nat}
theorem wpAny_tail (hz : waitsBack ops = true) (hc : coverOkM m ops = true) : ∀ (r : List Oper) (j fuel : Nat) (listed : Array Bool) (a : Act) (w : World), ops.toList.drop j = r → m ≤ j → listed.size = ops.size → (∀ i, i < ops.size → (listed.getD i false = true ↔ i < j)) → r.length ≤ fuel →
    wpTail P ops Q r a w → wpAny P .any ops Q fuel listed a w := by
  intro r
  induction r with
  | nil =>
    intro j fuel listed a w hd hm hs hl hf h
    refine wpAny_full (fun i hi => ?_) h
    have hjs : ops.size ≤ j := by
      have := congrArg List.length hd
      simp at this
      omega
    rw [getD_in (by rw [hs]; exact hi) true false]
    exact (hl i hi).2 (by omega)
  | cons o r ih =>
    intro j fuel listed a w hd hm hs hl hf h
    have hj : j < ops.size := by
      have := congrArg List.length hd
      simp at this
      omega
    have ho : ops[j]? = some o := by
      have := congrArg (fun l => l[0]?) hd
      simpa using this
    have hd' : ops.toList.drop (j + 1) = r := by
      have := congrArg (List.drop 1) hd
      simpa using this
    cases fuel with
    | zero => simp at hf
    | succ fuel =>
      have hready : ∀ i ∈ Region.ready .any ops listed, i = j := by
        intro i hi
        obtain ⟨h1, oi, hoi, hw⟩ := mem_ready.1 hi
        have hil := (Array.getElem?_eq_some_iff.1 hoi).1
        have hnot : ¬ i < j := fun k => by
          have := (hl i hil).2 k
          rw [getD_in (by rw [hs]; exact hil) true false] at h1
          rw [h1] at this; cases this
        rcases Nat.lt_or_ge j i with k | k
        · obtain ⟨e, he, hb, hon⟩ := depOn_spec (tail_spec hc (by omega) hoi)
          have := hw e he hb
          rw [hon] at this
          have := (hl (i - 1) (by omega)).1 this
          omega
        · omega
      refine ⟨fun hr => ?_, fun i hi => ?_⟩
      · exfalso
        have : j ∈ Region.ready .any ops listed := mem_ready.2 ⟨?_, o, ho, fun e he hb => (hl e.on (by have := waitsBack_spec hz ho e he; omega)).2 (waitsBack_spec hz ho e he)⟩
        · rw [hr] at this; cases this
        · rw [getD_in (by rw [hs]; exact hj) true false]
          cases hh : listed.getD j false with
          | false => rfl
          | true => have := (hl j hj).1 hh; omega
      · obtain rfl := hready i hi
        unfold wpOp
        rw [ho]
        obtain ⟨hwant, hstep⟩ := h
        simp only [hwant, if_true]
        refine .inl (Oper.wp_mono (fun a' w' hq => ih (i + 1) fuel _ a' w' hd' (by omega) (by simpa using hs) (fun q hq' => ?_) (by simp at hf; omega) hq) hstep)
        by_cases e : i = q
        · subst e
          rw [getD_set_eq (by rw [hs]; exact hj)]
          simp
        · rw [getD_set_other e, hl q hq']
          omega
structure LaneInv2 (ops : Array Oper) (S : World → Prop) (PR : Nat → Value → World → Prop) (AL : Nat → Bool) (a0 : Act) (w0 : World) (m : Nat) (listed : Array Bool) (a : Act) (w : World) : Prop where
  sz : listed.size = ops.size
  ds : a.defers = a0.defers
  ts : a.tmps.size = a0.tmps.size
  bl : Below w0.heap.size w0 w
  s : S w
  un : ∀ t, noDst ops t = true → a.tmps[t]?.getD undef = a0.tmps[t]?.getD undef
  pr : ∀ d t, d < m → listed.getD d false = true → dstOf ops d = some t → PR d (a.tmps[t]?.getD undef) w
  ne : ∀ i j t u, i < m → j < m → i ≠ j → AL i = true → AL j = true → listed.getD i false = true → listed.getD j false = true → dstOf ops i = some t → dstOf ops j = some u → a.tmps[t]?.getD undef ≠ a.tmps[u]?.getD undef
  cl : ∀ i o, ops[i]? = some o → listed.getD i false = true → ∀ d, depOn o d = true → listed.getD d false = true
  la : ∀ j, m ≤ j → j < ops.size → listed.getD j false = false
def LaneDue2 (P : Program) (ops : Array Oper) (Q : Exit → Act → World → Prop) (S : World → Prop) (PR : Nat → Value → World → Prop) (AL : Nat → Bool) (a0 : Act) (w0 : World) (i : Nat) (o : Oper) : Prop :=
  ∀ (a : Act) (w : World), Below w0.heap.size w0 w → S w → (∀ t, noDst ops t = true → a.tmps[t]?.getD undef = a0.tmps[t]?.getD undef) →
    (∀ d t, depOn o d = true → dstOf ops d = some t → PR d (a.tmps[t]?.getD undef) w) →
    Region.wanted o (yielded ops a.tmps) = true ∧ o.wp P a w (fun a' w' => ∃ v, a' = a.put o.dst v ∧ PR i v w' ∧ Below w.heap.size w w' ∧ (AL i = true → v = .pointer (some ⟨w.heap.size, 0, none⟩))) Q
def LaneEnd2 (P : Program) (ops : Array Oper) (Q : Exit → Act → World → Prop) (S : World → Prop) (PR : Nat → Value → World → Prop) (AL : Nat → Bool) (a0 : Act) (w0 : World) (m : Nat) (r : List Oper) : Prop :=
  ∀ (a : Act) (w : World), a.defers = a0.defers → a.tmps.size = a0.tmps.size → Below w0.heap.size w0 w → S w → (∀ t, noDst ops t = true → a.tmps[t]?.getD undef = a0.tmps[t]?.getD undef) →
    (∀ d t, d < m → dstOf ops d = some t → PR d (a.tmps[t]?.getD undef) w) →
    (∀ i j t u, i < m → j < m → i ≠ j → AL i = true → AL j = true → dstOf ops i = some t → dstOf ops j = some u → a.tmps[t]?.getD undef ≠ a.tmps[u]?.getD undef) →
    wpTail P ops Q r a w
theorem tmp_set_eq {xs : Array Value} {i : Nat} {v : Value} (h : i < xs.size) : (xs.setIfInBounds i v)[i]?.getD undef = v := by simp [h]
theorem tmp_set_other {xs : Array Value} {i j : Nat} {v : Value} (h : i ≠ j) : (xs.setIfInBounds i v)[j]?.getD undef = xs[j]?.getD undef := by simp [Array.getElem?_setIfInBounds, h]
theorem dstOf_at {d : Nat} {t : Tmp} (h : dstOf ops d = some t) : ∃ o, ops[d]? = some o ∧ o.dst = some t := Option.bind_eq_some_iff.1 h
theorem lanes2_any (hz : waitsBack ops = true) (hc : coverOkM m ops = true) (hd : dstOkM a0.tmps.size m ops = true) (hm : m < ops.size) (hS : ∀ w w', S w → Below w.heap.size w w' → S w') (hP : ∀ i v w w', PR i v w → Below w.heap.size w w' → PR i v w')
    (hA : ∀ i v w, AL i = true → PR i v w → ∃ g, v = .pointer (some ⟨g, 0, none⟩) ∧ g < w.heap.size)
    (hl : ∀ i o, i < m → ops[i]? = some o → LaneDue2 P ops Q S PR AL a0 w0 i o) (hlast : LaneEnd2 P ops Q S PR AL a0 w0 m (ops.toList.drop m)) :
    ∀ fuel listed a w, LaneInv2 ops S PR AL a0 w0 m listed a w → ((List.range ops.size).filter fun i => !listed.getD i true).length ≤ fuel → wpAny P .any ops Q fuel listed a w := by
  have notdone : ∀ listed a w, LaneInv2 ops S PR AL a0 w0 m listed a w → Region.ready .any ops listed ≠ [] := by
    intro listed a w h hr
    have hall : ∀ i, i < ops.size → listed.getD i false = true := by
      intro i
      induction i using Nat.strongRecOn with
      | _ i ih =>
        intro hi
        by_cases hli : listed.getD i true = true
        · rw [getD_in (by rw [h.sz]; exact hi) false true]; exact hli
        · have ho : ops[i]? = some ops[i] := Array.getElem?_eq_getElem hi
          have : i ∈ Region.ready .any ops listed := mem_ready.2 ⟨by simpa using hli, _, ho, fun e he _ => ih e.on (waitsBack_spec hz ho e he) (by have := waitsBack_spec hz ho e he; omega)⟩
          rw [hr] at this
          cases this
    have := hall m hm
    rw [h.la m (Nat.le_refl _) hm] at this
    cases this
  intro fuel
  induction fuel with
  | zero =>
    intro listed a w h hf
    exfalso
    apply notdone _ _ _ h
    apply List.eq_nil_iff_forall_not_mem.2
    intro i hi
    obtain ⟨h1, o, ho, -⟩ := mem_ready.1 hi
    have h0 := List.eq_nil_of_length_eq_zero (Nat.le_zero.1 hf)
    have : i ∈ (List.range ops.size).filter fun i => !listed.getD i true := List.mem_filter.2 ⟨List.mem_range.2 (Array.getElem?_eq_some_iff.1 ho).1, by simp [h1]⟩
    rw [h0] at this
    cases this
  | succ fuel ih =>
    intro listed a w h hf
    -- are all lanes through?
    by_cases hfull : ∀ i, i < m → listed.getD i false = true
    · have htail := hlast a w h.ds h.ts h.bl h.s h.un (fun d t hd' ht => h.pr d t hd' (hfull d hd') ht) (fun i j t u hi hj hne ai aj ht hu => h.ne i j t u hi hj hne ai aj (hfull i hi) (hfull j hj) ht hu)
      refine wpAny_tail hz hc _ m (fuel + 1) listed a w rfl (Nat.le_refl _) h.sz (fun i hi => ⟨fun k => ?_, fun k => hfull i k⟩) ?_ htail
      · rcases Nat.lt_or_ge i m with q | q
        · exact q
        · rw [h.la i q hi] at k; cases k
      · refine Nat.le_trans ?_ hf
        have e : (List.range ops.size).filter (fun i => !listed.getD i true) = (List.range ops.size).drop m := by
          have e1 : List.range ops.size = (List.range ops.size).take m ++ (List.range ops.size).drop m := (List.take_append_drop _ _).symm
          conv => lhs; rw [e1]
          rw [List.filter_append]
          have f1 : ((List.range ops.size).take m).filter (fun i => !listed.getD i true) = [] := by
            apply List.filter_eq_nil_iff.2
            intro i hi
            rw [List.take_range] at hi
            have hi' := List.mem_range.1 hi
            have : listed.getD i true = true := by rw [getD_in (by rw [h.sz]; omega) true false]; exact hfull i (by omega)
            simp [this]
          have f2 : ((List.range ops.size).drop m).filter (fun i => !listed.getD i true) = (List.range ops.size).drop m := by
            apply List.filter_eq_self.2
            intro i hi
            obtain ⟨q, hq1, hq2⟩ := List.mem_iff_getElem.1 hi
            simp at hq1 hq2
            have : listed.getD i true = false := by rw [getD_in (by rw [h.sz]; omega) true false]; exact h.la i (by omega) (by omega)
            simp [this]
          rw [f1, f2, List.nil_append]
        rw [e]
        simp
    refine ⟨fun hr => absurd hr (notdone _ _ _ h), fun i hi => ?_⟩
    obtain ⟨h1, o, ho, hw⟩ := mem_ready.1 hi
    have hil := (Array.getElem?_eq_some_iff.1 ho).1
    have hw' : ∀ d, depOn o d = true → listed.getD d false = true := fun d hd' => by
      obtain ⟨e, he, hb, rfl⟩ := depOn_spec hd'
      exact hw e he hb
    have hi' : i < m := by
      rcases Nat.lt_or_ge i m with q | q
      · exact q
      · exfalso
        rcases Nat.lt_or_ge m i with q2 | q2
        · have := hw' (i - 1) (tail_spec hc q2 ho)
          rw [h.la (i - 1) (by omega) (by omega)] at this
          cases this
        · obtain rfl : i = m := by omega
          apply hfull
          have key : ∀ k x, x < i → i - x ≤ k → listed.getD x false = true := by
            intro k
            induction k with
            | zero => intro x hx hk; omega
            | succ k ihk =>
              intro x hx hk
              obtain ⟨j, oj, hxj, hjm, hoj, hdj⟩ := coverOkM_spec hc hx
              by_cases hj : j = i
              · subst hj
                rw [ho] at hoj; cases hoj
                exact hw' x hdj
              · exact h.cl j oj hoj (ihk j (by omega) (by omega)) x hdj
          exact fun x hx => key _ x hx (Nat.le_refl _)
    obtain ⟨t, ht, htn, hto⟩ := dstOkM_spec hd hi' ho
    have hdst : dstOf ops i = some t := by unfold dstOf; rw [ho]; exact ht
    have hoth : ∀ j u, j ≠ i → dstOf ops j = some u → t ≠ u := fun j u hj hu e => by
      obtain ⟨oj, hoj, hu'⟩ := dstOf_at hu
      exact hto j oj hj hoj (by rw [hu', e])
    have hbase : ∀ d, d < i → d < m := fun d hd' => by omega
    obtain ⟨hwant, hstep⟩ := hl i o hi' ho a w h.bl h.s h.un (fun d u hdo hdu => h.pr d u (by
      obtain ⟨e, he, hb, rfl⟩ := depOn_spec hdo
      have := waitsBack_spec hz ho e he
      omega) (hw' d hdo) hdu)
    unfold wpOp
    rw [ho]
    simp only [hwant, if_true]
    refine .inl (Oper.wp_mono (fun a' w' => ?_) hstep)
    rintro ⟨v, rfl, hv, hb, hal⟩
    rw [ht]
    refine ih _ _ _ ⟨?_, ?_, ?_, ?_, ?_, ?_, ?_, ?_, ?_, ?_⟩ ?_
    · simpa using h.sz
    · exact h.ds
    · simpa [Act.put] using h.ts
    · exact below_next h.bl h.bl.size hb
    · exact hS _ _ h.s hb
    · intro t' hno
      have hne : t ≠ t' := fun e => noDst_spec hno i o ho (by rw [ht, e])
      simp only [Act.put]
      rw [tmp_set_other hne]
      exact h.un t' hno
    · intro d u hdm hld hdu
      simp only [Act.put]
      by_cases e : d = i
      · subst e
        rw [hdst] at hdu; cases hdu
        rw [tmp_set_eq (by rw [h.ts]; exact htn)]
        exact hv
      · rw [tmp_set_other (hoth d u e hdu)]
        rw [getD_set_other (Ne.symm e)] at hld
        exact hP _ _ _ _ (h.pr d u hdm hld hdu) hb
    · intro x y t1 t2 hx hy hxy ax ay lx ly d1 d2
      simp only [Act.put]
      by_cases ex : x = i
      · subst ex
        rw [hdst] at d1; cases d1
        have ey : y ≠ x := Ne.symm hxy
        rw [tmp_set_eq (by rw [h.ts]; exact htn), tmp_set_other (hoth y t2 ey d2)]
        rw [getD_set_other hxy] at ly
        obtain ⟨g, hg, hlt⟩ := hA y _ w ay (h.pr y t2 hy ly d2)
        rw [hal ax, hg]
        intro q
        simp only [Value.pointer.injEq, Option.some.injEq, Addr.mk.injEq] at q
        omega
      · by_cases ey : y = i
        · subst ey
          rw [hdst] at d2; cases d2
          rw [tmp_set_eq (by rw [h.ts]; exact htn), tmp_set_other (hoth x t1 ex d1)]
          rw [getD_set_other (Ne.symm ex)] at lx
          obtain ⟨g, hg, hlt⟩ := hA x _ w ax (h.pr x t1 hx lx d1)
          rw [hal ay, hg]
          intro q
          simp only [Value.pointer.injEq, Option.some.injEq, Addr.mk.injEq] at q
          omega
        · rw [tmp_set_other (hoth x t1 ex d1), tmp_set_other (hoth y t2 ey d2)]
          rw [getD_set_other (Ne.symm ex)] at lx
          rw [getD_set_other (Ne.symm ey)] at ly
          exact h.ne x y t1 t2 hx hy hxy ax ay lx ly d1 d2
    · intro j oj hoj hlj d hdj
      by_cases e1 : i = d
      · subst e1; exact getD_set_eq (by rw [h.sz]; exact hil)
      · rw [getD_set_other e1]
        by_cases e2 : i = j
        · subst e2
          rw [ho] at hoj; cases hoj
          exact hw' d hdj
        · rw [getD_set_other e2] at hlj
          exact h.cl j oj hoj hlj d hdj
    · intro j hj hjs
      rw [getD_set_other (by omega : i ≠ j)]; exact h.la j hj hjs
    · have := filter_lt_len (p := fun i => !listed.getD i true) (q := fun j => !(listed.setIfInBounds i true).getD j true) (i := i) (fun x hx => by
        by_cases e : i = x
        · subst e; rw [getD_set_eq (by rw [h.sz]; exact hil)] at hx; simp at hx
        · rw [getD_set_other e] at hx; exact hx) (by simp [h1]) (by rw [getD_set_eq (by rw [h.sz]; exact hil)]; simp) (List.range ops.size) (List.mem_range.2 hil)
      omega
def AllLanes2 (F : Nat → Oper → Prop) (G : List Oper → Prop) : Nat → Nat → List Oper → Prop
  | 0, _, r => G r
  | _ + 1, _, [] => True
  | k + 1, i, o :: rest => F i o ∧ AllLanes2 F G k (i + 1) rest
theorem AllLanes2.at_ {F : Nat → Oper → Prop} {G : List Oper → Prop} : ∀ (k i : Nat) (l : List Oper), k ≤ l.length → AllLanes2 F G k i l → (∀ j o, j < k → l[j]? = some o → F (i + j) o) ∧ G (l.drop k)
  | 0, i, l, _, h => ⟨fun j o hj => by omega, by simpa [AllLanes2] using h⟩
  | k + 1, i, [], hk, h => by simp at hk
  | k + 1, i, o :: rest, hk, h => by
    obtain ⟨h1, h2⟩ := AllLanes2.at_ k (i + 1) rest (by simpa using hk) h.2
    refine ⟨fun j x hj hx => ?_, by simpa using h2⟩
    cases j with
    | zero => simp at hx; subst hx; exact h.1
    | succ j =>
      have := h1 j x (by omega) (by simpa using hx)
      rw [show i + (j + 1) = i + 1 + j from by omega]
      exact this
theorem wp_lanes2 {id : Nat} (hm : P.follows .mixedOrders = true) (m : Nat) (S : World → Prop) (PR : Nat → Value → World → Prop) (AL : Nat → Bool) (hz : waitsBack ops = true) (hc : coverOkM m ops = true) (n : Nat) (hn : a0.tmps.size = n) (hd : dstOkM n m ops = true) (hml : m < ops.size) (hS : ∀ w w', S w → Below w.heap.size w w' → S w') (hP : ∀ i v w w', PR i v w → Below w.heap.size w w' → PR i v w')
    (hA : ∀ i v w, AL i = true → PR i v w → ∃ g, v = .pointer (some ⟨g, 0, none⟩) ∧ g < w.heap.size) (h0 : S w0.drew)
    (h : AllLanes2 (LaneDue2 P ops Q S PR AL a0 w0.drew) (LaneEnd2 P ops Q S PR AL a0 w0.drew m) m 0 ops.toList) : (Code.region id ops true).wp P Q a0 w0 := by
  subst hn
  obtain ⟨h1, h2⟩ := AllLanes2.at_ m 0 _ (by simp; omega) h
  refine wp_region_any hm ?_
  refine lanes2_any (w0 := w0.drew) hz hc hd hml hS hP hA (fun i o hi ho => ?_) h2 _ _ _ _ ⟨by simp, rfl, rfl, Below.refl _ _, h0, fun _ _ => rfl, fun d t _ hlt => ?_, fun i j t u _ _ _ _ _ hlt => ?_, fun i o ho hlt => ?_, fun j _ hj => ?_⟩ ?_
  · have := h1 i o hi (by simpa using ho)
    rwa [Nat.zero_add] at this
  · exfalso
    rw [Array.getD_eq_getD_getElem?, Array.getElem?_replicate] at hlt
    split at hlt <;> simp at hlt
  · exfalso
    rw [Array.getD_eq_getD_getElem?, Array.getElem?_replicate] at hlt
    split at hlt <;> simp at hlt
  · exfalso
    rw [Array.getD_eq_getD_getElem?, Array.getElem?_replicate] at hlt
    split at hlt <;> simp at hlt
  · rw [Array.getD_eq_getD_getElem?, Array.getElem?_replicate]
    split <;> rfl
  · exact Nat.le_trans (List.length_filter_le _ _) (by simp)
end
/-- An array of known size, slot by slot. -/
theorem arr_map (xs : Array Value) (n : Nat) (h : xs.size = n) : xs = ((List.range n).map fun i => xs[i]?.getD undef).toArray := by
  apply Array.ext
  · simp [h]
  · intro i h1 h2
    simp [h1]
end Go.Proofs.YtbfgoojpbhlboaaDoor
