/- The walk of SchedTickets. No condition. -/
import Derived.Test.YtomopjpfdmpgpaaSchedAsks
import Derived.Test.YtomopjpfdmpgpaaZero
set_option linter.unusedVariables false
set_option linter.unusedSimpArgs false
namespace Go.Proofs.Ytomopjpfdmpgpaa
open Go Go.RowKit Go.WideMaps

theorem apart_next {v v' x : Value} {n : Nat} (h : Apart v x) (e : v'.ownBlock = v.ownBlock ∨ v'.ownBlock = some n) (hx : ∀ q, x.ownBlock = some q → q < n) : Apart v' x := by
  intro q hq hxq
  rcases e with e | e
  · exact h q (e ▸ hq) hxq
  · rw [e] at hq
    cases hq
    have := hx _ hxq
    omega
/-- Term x is the one of place q of the four behind a ticket's secret. -/
def MadeT (T : List Nd) (own x : Int) : Nat → Prop
  | 0 => Der0 T x own lbEarly
  | 1 => ∃ e c, Der0 T e own lbEarly ∧ DerAt T x e lbClientEarly c
  | 2 => ∃ e c, Der0 T e own lbEarly ∧ FinAt T x lbBinder e c
  | _ => ∃ e r, Der0 T e own lbEarly ∧ getT T r = some ⟨3, ByteArray.empty, [e, e]⟩ ∧ Der0 T x r lbHandshake
theorem MadeT.ext {n : Nat} {T T' : List Nd} {own x : Int} (X : Ext n T T') : ∀ {q : Nat}, MadeT T own x q → MadeT T' own x q
  | 0, h => Der0.ext h X
  | 1, ⟨e, c, h1, h2⟩ => ⟨e, c, h1.ext X, h2.ext X⟩
  | 2, ⟨e, c, h1, h2⟩ => ⟨e, c, h1.ext X, h2.ext X⟩
  | _ + 3, ⟨e, r, h1, h2, h3⟩ => ⟨e, r, h1.ext X, X.get h2, h3.ext X⟩
theorem early_ne_traffic : lbEarly ≠ lbClientEarly := by decide
theorem early_ne_shaken : lbEarly ≠ lbHandshake := by decide
theorem traffic_ne_shaken : lbClientEarly ≠ lbHandshake := by decide
theorem der0_at {T : List Nd} {x s : Int} {l : ByteArray} (h : Der0 T x s l) : ∃ c, DerAt T x s l c := by
  obtain ⟨c, h1, h2⟩ := h
  exact ⟨c, h1⟩
theorem der_fin {T : List Nd} {x s k c tr : Int} {l l' : ByteArray} (h : DerAt T x s l c) (k' : FinAt T x l' k tr) : False := by
  obtain ⟨ha, h1, h2⟩ := h
  obtain ⟨d, k1, k2⟩ := k'
  have := getT_fun h1 k2
  simp at this
theorem MadeT.inj {T : List Nd} {own own' x : Int} {q q' : Nat} (hq : q ≤ 3) (hq' : q' ≤ 3) (h : MadeT T own x q) (k : MadeT T own' x q') : own = own' ∧ q = q' := by
  match q, q', hq, hq', h, k with
  | 0, 0, _, _, h, k => exact ⟨(Der0.inj h k).1, rfl⟩
  | 0, 1, _, _, h, ⟨e, c, k1, k2⟩ => obtain ⟨c', h'⟩ := der0_at h; exact absurd (h'.inj k2).2.1 early_ne_traffic
  | 0, 2, _, _, h, ⟨e, c, k1, k2⟩ => obtain ⟨c', h'⟩ := der0_at h; exact (der_fin h' k2).elim
  | 0, 3, _, _, h, ⟨e, r, k1, k2, k3⟩ => exact absurd (Der0.inj h k3).2 early_ne_shaken
  | 1, 0, _, _, ⟨e, c, k1, k2⟩, h => obtain ⟨c', h'⟩ := der0_at h; exact absurd (h'.inj k2).2.1 early_ne_traffic
  | 1, 1, _, _, ⟨e, c, h1, h2⟩, ⟨e', c', k1, k2⟩ => obtain ⟨rfl, _, _⟩ := h2.inj k2; exact ⟨(h1.inj k1).1, rfl⟩
  | 1, 2, _, _, ⟨e, c, h1, h2⟩, ⟨e', c', k1, k2⟩ => exact (der_fin h2 k2).elim
  | 1, 3, _, _, ⟨e, c, h1, h2⟩, ⟨e', r, k1, k2, k3⟩ => obtain ⟨c', h'⟩ := der0_at k3; exact absurd (h2.inj h').2.1 traffic_ne_shaken
  | 2, 0, _, _, ⟨e, c, k1, k2⟩, h => obtain ⟨c', h'⟩ := der0_at h; exact (der_fin h' k2).elim
  | 2, 1, _, _, ⟨e, c, h1, h2⟩, ⟨e', c', k1, k2⟩ => exact (der_fin k2 h2).elim
  | 2, 2, _, _, ⟨e, c, h1, h2⟩, ⟨e', c', k1, k2⟩ =>
    obtain ⟨d, a1, a2⟩ := h2
    obtain ⟨d', b1, b2⟩ := k2
    have := getT_fun a2 b2
    simp only [Nd.mk.injEq, List.cons.injEq, and_true, true_and] at this
    obtain ⟨rfl, _⟩ := this
    obtain ⟨rfl, _⟩ := a1.inj b1
    exact ⟨(h1.inj k1).1, rfl⟩
  | 2, 3, _, _, ⟨e, c, h1, h2⟩, ⟨e', r, k1, k2, k3⟩ => obtain ⟨c', h'⟩ := der0_at k3; exact (der_fin h' h2).elim
  | 3, 0, _, _, ⟨e, r, k1, k2, k3⟩, h => exact absurd (Der0.inj h k3).2 early_ne_shaken
  | 3, 1, _, _, ⟨e', r, k1, k2, k3⟩, ⟨e, c, h1, h2⟩ => obtain ⟨c', h'⟩ := der0_at k3; exact absurd (h2.inj h').2.1 traffic_ne_shaken
  | 3, 2, _, _, ⟨e', r, k1, k2, k3⟩, ⟨e, c, h1, h2⟩ => obtain ⟨c', h'⟩ := der0_at k3; exact (der_fin h' h2).elim
  | 3, 3, _, _, ⟨e, r, h1, h2, h3⟩, ⟨e', r', k1, k2, k3⟩ =>
    obtain ⟨rfl, _⟩ := h3.inj k3
    have := getT_fun h2 k2
    simp only [Nd.mk.injEq, List.cons.injEq, and_true, true_and] at this
    obtain ⟨rfl, _⟩ := this
    exact ⟨(h1.inj k1).1, rfl⟩
/-- All of the list are of earlier tickets. -/
def OldT (T : List Nd) (S : List Int) : Prop := ∀ y ∈ S, ∃ own q, q ≤ 3 ∧ MadeT T own y q ∧ In T own
theorem four_news {T T0 : List Nd} {S : List Int} {own a b c d : Int} {n : Nat} (X : Ext n T0 T) (hS : OldT T0 S) (hown : ¬ In T0 own ∨ S = []) (ha : MadeT T own a 0) (hb : MadeT T own b 1) (hc : MadeT T own c 2) (hd : MadeT T own d 3) :
    ∀ k, k < 4 → ∀ y ∈ S ++ [a, b, c, d].take k, ¬ y = nth [a, b, c, d] k := by
  have hm : ∀ k, k < 4 → MadeT T own (nth [a, b, c, d] k) k := fun k hk => by
    match k, hk with
    | 0, _ => exact ha
    | 1, _ => exact hb
    | 2, _ => exact hc
    | 3, _ => exact hd
  intro k hk y hy e
  subst e
  rcases List.mem_append.1 hy with hy | hy
  · obtain ⟨o, q, hq, h1, h2⟩ := hS _ hy
    have := (h1.ext X).inj hq (by omega) (hm k hk)
    rcases hown with h | h
    · exact h (this.1 ▸ h2)
    · subst h; simp at hy
  · obtain ⟨j, hj⟩ := List.mem_iff_getElem?.1 hy
    have hjk : j < k := by
      have := (List.getElem?_eq_some_iff.1 hj).1
      simp at this
      omega
    have hj' : [a, b, c, d][j]? = some (nth [a, b, c, d] k) := by
      rw [List.getElem?_take] at hj
      simpa [hjk] using hj
    rw [nth_lt (by simp; omega)] at hj'
    have e := Option.some.inj hj'
    have h1 := hm j (by omega)
    rw [e] at h1
    have := h1.inj (by omega) (by omega) (hm k hk)
    omega
theorem old_next {T T0 : List Nd} {S : List Int} {own a b c d : Int} {n : Nat} (X : Ext n T0 T) (hS : OldT T0 S) (ho : In T own) (ha : MadeT T own a 0) (hb : MadeT T own b 1) (hc : MadeT T own c 2) (hd : MadeT T own d 3) : OldT T (S ++ [a, b, c, d]) := by
  intro y hy
  rcases List.mem_append.1 hy with hy | hy
  · obtain ⟨o, q, hq, h1, h2⟩ := hS _ hy
    exact ⟨o, q, hq, h1.ext X, h2.ext X⟩
  · simp only [List.mem_cons, List.not_mem_nil, or_false] at hy
    rcases hy with rfl | rfl | rfl | rfl
    · exact ⟨own, 0, by omega, ha, ho⟩
    · exact ⟨own, 1, by omega, hb, ho⟩
    · exact ⟨own, 2, by omega, hc, ho⟩
    · exact ⟨own, 3, by omega, hd, ho⟩
theorem take_snoc4 {A : List Int} {S : List Int} {k : Nat} (h : k < A.length) : S ++ A.take k ++ [nth A k] = S ++ A.take (k + 1) := by rw [take_nth_succ h, List.append_assoc]

theorem cell_new_one (w : World) (x : Int) (t : Nat) : (w.alloc (.cells #[.int .i64 x] t)).cell? ⟨w.heap.size, 0, none⟩ = some (.int .i64 x) := by simp [go_sem]
theorem size_new (w : World) (o : Obj) : w.heap.size ≤ (w.alloc o).heap.size := by simp

end Go.Proofs.Ytomopjpfdmpgpaa
