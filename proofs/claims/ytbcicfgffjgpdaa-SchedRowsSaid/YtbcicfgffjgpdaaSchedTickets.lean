/- The walk of SchedTickets. No condition. -/
import Derived.Test.YtbcicfgffjgpdaaSchedAsks
import Derived.Test.YtbcicfgffjgpdaaZero
set_option linter.unusedVariables false
set_option linter.unusedSimpArgs false
namespace Go.Proofs.Ytbcicfgffjgpdaa
open Go Go.RowKit Go.WideMaps

theorem apart_next {v v' x : Value} {n : Nat} (h : Apart v x) (e : v'.ownBlock = v.ownBlock ∨ v'.ownBlock = some n) (hx : ∀ q, x.ownBlock = some q → q < n) : Apart v' x := by
  intro q hq hxq
  rcases e with e | e
  · exact h q (e ▸ hq) hxq
  · rw [e] at hq
    cases hq
    have := hx _ hxq
    omega
/-- Term x is the one of place q of the four behind a ticket's secret. -/
def MadeT (T : List Nd) (own x : Int) : Nat → Prop
  | 0 => Der0 T x own lbEarly
  | 1 => ∃ e c, Der0 T e own lbEarly ∧ DerAt T x e lbClientEarly c
  | 2 => ∃ e c, Der0 T e own lbEarly ∧ FinAt T x lbBinder e c
  | _ => ∃ e r, Der0 T e own lbEarly ∧ getT T r = some ⟨3, ByteArray.empty, [e, e]⟩ ∧ Der0 T x r lbHandshake
theorem MadeT.ext {n : Nat} {T T' : List Nd} {own x : Int} (X : Ext n T T') : ∀ {q : Nat}, MadeT T own x q → MadeT T' own x q
  | 0, h => Der0.ext h X
  | 1, ⟨e, c, h1, h2⟩ => ⟨e, c, h1.ext X, h2.ext X⟩
  | 2, ⟨e, c, h1, h2⟩ => ⟨e, c, h1.ext X, h2.ext X⟩
  | _ + 3, ⟨e, r, h1, h2, h3⟩ => ⟨e, r, h1.ext X, X.get h2, h3.ext X⟩
theorem early_ne_traffic : lbEarly ≠ lbClientEarly := by decide
theorem early_ne_shaken : lbEarly ≠ lbHandshake := by decide
theorem traffic_ne_shaken : lbClientEarly ≠ lbHandshake := by decide
theorem der0_at {T : List Nd} {x s : Int} {l : ByteArray} (h : Der0 T x s l) : ∃ c, DerAt T x s l c := by
  obtain ⟨c, h1, h2⟩ := h
  exact ⟨c, h1⟩
theorem der_fin {T : List Nd} {x s k c tr : Int} {l l' : ByteArray} (h : DerAt T x s l c) (k' : FinAt T x l' k tr) : False := by
  obtain ⟨ha, h1, h2⟩ := h
  obtain ⟨d, k1, k2⟩ := k'
  have := getT_fun h1 k2
  simp at this
theorem MadeT.inj {T : List Nd} {own own' x : Int} {q q' : Nat} (hq : q ≤ 3) (hq' : q' ≤ 3) (h : MadeT T own x q) (k : MadeT T own' x q') : own = own' ∧ q = q' := by
  match q, q', hq, hq', h, k with
  | 0, 0, _, _, h, k => exact ⟨(Der0.inj h k).1, rfl⟩
  | 0, 1, _, _, h, ⟨e, c, k1, k2⟩ => obtain ⟨c', h'⟩ := der0_at h; exact absurd (h'.inj k2).2.1 early_ne_traffic
  | 0, 2, _, _, h, ⟨e, c, k1, k2⟩ => obtain ⟨c', h'⟩ := der0_at h; exact (der_fin h' k2).elim
  | 0, 3, _, _, h, ⟨e, r, k1, k2, k3⟩ => exact absurd (Der0.inj h k3).2 early_ne_shaken
  | 1, 0, _, _, ⟨e, c, k1, k2⟩, h => obtain ⟨c', h'⟩ := der0_at h; exact absurd (h'.inj k2).2.1 early_ne_traffic
  | 1, 1, _, _, ⟨e, c, h1, h2⟩, ⟨e', c', k1, k2⟩ => obtain ⟨rfl, _, _⟩ := h2.inj k2; exact ⟨(h1.inj k1).1, rfl⟩
  | 1, 2, _, _, ⟨e, c, h1, h2⟩, ⟨e', c', k1, k2⟩ => exact (der_fin h2 k2).elim
  | 1, 3, _, _, ⟨e, c, h1, h2⟩, ⟨e', r, k1, k2, k3⟩ => obtain ⟨c', h'⟩ := der0_at k3; exact absurd (h2.inj h').2.1 traffic_ne_shaken
  | 2, 0, _, _, ⟨e, c, k1, k2⟩, h => obtain ⟨c', h'⟩ := der0_at h; exact (der_fin h' k2).elim
  | 2, 1, _, _, ⟨e, c, h1, h2⟩, ⟨e', c', k1, k2⟩ => exact (der_fin k2 h2).elim
  | 2, 2, _, _, ⟨e, c, h1, h2⟩, ⟨e', c', k1, k2⟩ =>
    obtain ⟨d, a1, a2⟩ := h2
    obtain ⟨d', b1, b2⟩ := k2
    have := getT_fun a2 b2
    simp only [Nd.mk.injEq, List.cons.injEq, and_true, true_and] at this
    obtain ⟨rfl, _⟩ := this
    obtain ⟨rfl, _⟩ := a1.inj b1
    exact ⟨(h1.inj k1).1, rfl⟩
  | 2, 3, _, _, ⟨e, c, h1, h2⟩, ⟨e', r, k1, k2, k3⟩ => obtain ⟨c', h'⟩ := der0_at k3; exact (der_fin h' h2).elim
  | 3, 0, _, _, ⟨e, r, k1, k2, k3⟩, h => exact absurd (Der0.inj h k3).2 early_ne_shaken
  | 3, 1, _, _, ⟨e', r, k1, k2, k3⟩, ⟨e, c, h1, h2⟩ => obtain ⟨c', h'⟩ := der0_at k3; exact absurd (h2.inj h').2.1 traffic_ne_shaken
  | 3, 2, _, _, ⟨e', r, k1, k2, k3⟩, ⟨e, c, h1, h2⟩ => obtain ⟨c', h'⟩ := der0_at k3; exact (der_fin h' h2).elim
  | 3, 3, _, _, ⟨e, r, h1, h2, h3⟩, ⟨e', r', k1, k2, k3⟩ =>
    obtain ⟨rfl, _⟩ := h3.inj k3
    have := getT_fun h2 k2
    simp only [Nd.mk.injEq, List.cons.injEq, and_true, true_and] at this
    obtain ⟨rfl, _⟩ := this
    exact ⟨(h1.inj k1).1, rfl⟩
/-- All of the list are of earlier tickets. -/
def OldT (T : List Nd) (S : List Int) : Prop := ∀ y ∈ S, ∃ own q, q ≤ 3 ∧ MadeT T own y q ∧ In T own
theorem four_news {T T0 : List Nd} {S : List Int} {own a b c d : Int} {n : Nat} (X : Ext n T0 T) (hS : OldT T0 S) (hown : ¬ In T0 own ∨ S = []) (ha : MadeT T own a 0) (hb : MadeT T own b 1) (hc : MadeT T own c 2) (hd : MadeT T own d 3) :
    ∀ k, k < 4 → ∀ y ∈ S ++ [a, b, c, d].take k, ¬ y = nth [a, b, c, d] k := by
  have hm : ∀ k, k < 4 → MadeT T own (nth [a, b, c, d] k) k := fun k hk => by
    match k, hk with
    | 0, _ => exact ha
    | 1, _ => exact hb
    | 2, _ => exact hc
    | 3, _ => exact hd
  intro k hk y hy e
  subst e
  rcases List.mem_append.1 hy with hy | hy
  · obtain ⟨o, q, hq, h1, h2⟩ := hS _ hy
    have := (h1.ext X).inj hq (by omega) (hm k hk)
    rcases hown with h | h
    · exact h (this.1 ▸ h2)
    · subst h; simp at hy
  · obtain ⟨j, hj⟩ := List.mem_iff_getElem?.1 hy
    have hjk : j < k := by
      have := (List.getElem?_eq_some_iff.1 hj).1
      simp at this
      omega
    have hj' : [a, b, c, d][j]? = some (nth [a, b, c, d] k) := by
      rw [List.getElem?_take] at hj
      simpa [hjk] using hj
    rw [nth_lt (by simp; omega)] at hj'
    have e := Option.some.inj hj'
    have h1 := hm j (by omega)
    rw [e] at h1
    have := h1.inj (by omega) (by omega) (hm k hk)
    omega
theorem old_next {T T0 : List Nd} {S : List Int} {own a b c d : Int} {n : Nat} (X : Ext n T0 T) (hS : OldT T0 S) (ho : In T own) (ha : MadeT T own a 0) (hb : MadeT T own b 1) (hc : MadeT T own c 2) (hd : MadeT T own d 3) : OldT T (S ++ [a, b, c, d]) := by
  intro y hy
  rcases List.mem_append.1 hy with hy | hy
  · obtain ⟨o, q, hq, h1, h2⟩ := hS _ hy
    exact ⟨o, q, hq, h1.ext X, h2.ext X⟩
  · simp only [List.mem_cons, List.not_mem_nil, or_false] at hy
    rcases hy with rfl | rfl | rfl | rfl
    · exact ⟨own, 0, by omega, ha, ho⟩
    · exact ⟨own, 1, by omega, hb, ho⟩
    · exact ⟨own, 2, by omega, hc, ho⟩
    · exact ⟨own, 3, by omega, hd, ho⟩
theorem take_snoc4 {A : List Int} {S : List Int} {k : Nat} (h : k < A.length) : S ++ A.take k ++ [nth A k] = S ++ A.take (k + 1) := by rw [take_nth_succ h, List.append_assoc]

theorem cell_new_one (w : World) (x : Int) (t : Nat) : (w.alloc (.cells #[.int .i64 x] t)).cell? ⟨w.heap.size, 0, none⟩ = some (.int .i64 x) := by simp [go_sem]
theorem size_new (w : World) (o : Obj) : w.heap.size ≤ (w.alloc o).heap.size := by simp

set_option maxHeartbeats 6400000 in
set_option maxRecDepth 100000 in
theorem tickets_walk (w : World) (n : Int) (b0 : 0 ≤ n) (b1 : n ≤ 255) : Calls Try.prog 4 #[.int .u8 n] w (AwakePost w) := by
  obtain ⟨m, hm⟩ : ∃ m : Nat, (m : Int) = n % 5 + 1 := ⟨(n % 5 + 1).toNat, by have := Int.emod_nonneg n (show (5 : Int) ≠ 0 by decide); omega⟩
  have hm5 : m ≤ 5 := by have := Int.emod_lt_of_pos n (show (0 : Int) < 5 by decide); omega
  have hmw : Hid (wrap64 (n % 5 + 1) = (m : Int)) := by show _ = _; rw [wrap_in' (by omega)]; exact hm.symm
  have HM := Lib.hid hm
  clear hm
  go_enter Try.func4, Try.ntmps4
  go_wp2_with fail
  refine (new_any w).mono ?_
  rintro e w1 ⟨tb, rfl, ht1, hb1⟩
  have HB1 := Lib.hid hb1
  have HT1 := Lib.hid ht1
  clear ht1 hb1
  go_wp2_with fail
  go_loopw [4, 5] (fun v i wr => ∃ (k : Nat) (T : List Nd) (S : List Int), k ≤ m ∧ i = .int .i64 k ∧ OwnZ wr w.heap.size v S ∧ S.length = 4 * k ∧ IsTab w.heap.size wr tb T ∧ OldT T S ∧ T.length ≤ 30 * k ∧ Below w.heap.size w wr) (fun _ i _ => m - (intOf i).toNat)
  case atStart => exact ⟨0, [], [], Nat.zero_le _, rfl, OwnZ.nil _ _, rfl, HT1.out, fun y hy => by simp at hy, by simp, HB1.out⟩
  case round =>
    obtain ⟨k, T, S0, hk, rfl, hv, hSl, ht, hold, hTl, hb⟩ := hrel
    have HV := Lib.hid hv
    have HT := Lib.hid ht
    have HO := Lib.hid hold
    have HB := Lib.hid hb
    have hTl' : T.length ≤ 150 := by omega
    clear hv ht hold hb
    by_cases hlt : k < m
    · have hcl : (k : Int) < n % 5 + 1 := by rw [← HM.out]; omega
      by_cases hk0 : k = 0
      · have hknp : ¬ (0 : Int) < (k : Int) := by omega
        have HH : Hid ((0 : Int) = 0 ∨ In T 0) := .inl rfl
        have hS0 : S0 = [] := List.eq_nil_of_length_eq_zero (by omega)
        have HN : Hid (∀ own, ((0 : Int) ≠ 0 → own = 0) → ¬ In T own ∨ S0 = []) := fun own _ => .inr hS0
        have HT2 := HT
        have HV2 := HV
        have HB2 := HB
        have X2 := Lib.hid ((Ext.refl T).mono (show 0 ≤ 1 by omega))
        have LT2 : Hid (T.length ≤ 155) := by show _ ≤ _; omega
        have FH : Hid (Fit 0) := ⟨by omega, by omega⟩
        clear hS0 hTl'
        go_wp2_with fail
        have key := early_any 0 wr HT2.out FH.out
        refine key.mono ?_
        clear key
        rintro e w3 p3
        obtain ⟨own, S1, S2, S3, X3⟩ := early_spec (T := T) (h := 0) HT2.out.1 (by have := LT2.out; omega) (.inl rfl)
        obtain ⟨⟨T3, e0⟩, e3⟩ : ∃ r, earlyT T 0 = r := ⟨_, rfl⟩
        obtain ⟨rfl, ht3, hf3⟩ := p3.intro e3
        rw [e3] at S2 S3 X3
        simp only at S2 S3 X3
        have IO : Hid (In T3 own) := ⟨_, S2 trivial⟩
        have HOwn : Hid (¬ In T own ∨ S0 = []) := HN.out own S1
        have HE := Lib.hid S3
        have HT3 := Lib.hid ht3
        have HF3 := Lib.hid hf3
        have XX := Lib.hid (X2.out.trans X3)
        have LT3 : Hid (T3.length ≤ 160) := by show _ ≤ _; have := X3.len; have := LT2.out; omega
        have FE : Hid (Fit e0) := by have := HE.out.in_.range; have := LT3.out; exact ⟨by omega, by omega⟩
        clear p3 e3 ht3 hf3 S1 S2 S3 X3
        go_wp2_with fail
        have key := begin_any w3 HT3.out
        refine key.mono ?_
        clear key
        rintro e w4 p4
        have S := begin_spec (T := T3) (by have := LT3.out; omega)
        have X := textT_ext T3 ByteArray.empty
        obtain ⟨⟨T4, bg⟩, e4⟩ : ∃ r, beginT T3 = r := ⟨_, rfl⟩
        have e4' : textT T3 ByteArray.empty = (T4, bg) := e4
        obtain ⟨rfl, ht4, hf4⟩ := p4.intro e4
        rw [e4] at S
        rw [e4'] at X
        simp only at S X
        have IB := Lib.hid S.in_
        have HT4 := Lib.hid ht4
        have HF4 := Lib.hid (HF3.out.trans hf4)
        have LT4 : Hid (T4.length ≤ 161) := by show _ ≤ _; have := X.len; have := LT3.out; omega
        have FB : Hid (Fit bg) := by have := IB.out.range; have := LT4.out; exact ⟨by omega, by omega⟩
        replace HE := Lib.hid (HE.out.ext X)
        replace IO := Lib.hid (IO.out.ext X)
        replace XX := Lib.hid (XX.out.trans X)
        clear p4 e4 e4' ht4 hf4 S X
        go_wp2_with fail
        have key := earlyTraffic_any e0 bg w4 HT4.out FE.out FB.out
        refine key.mono ?_
        clear key
        rintro e w5 p5
        obtain ⟨S, X⟩ := behind_spec (T := T4) (s := e0) (tr := bg) (l := lbClientEarly) HT4.out.1 (by decide) (by have := LT4.out; omega) HE.out.in_ IB.out
        obtain ⟨⟨T5, et⟩, e5⟩ : ∃ r, behindT T4 lbClientEarly e0 bg = r := ⟨_, rfl⟩
        obtain ⟨rfl, ht5, hf5⟩ := p5.intro e5
        rw [e5] at S X
        simp only at S X
        have HET : Hid (DerAt T5 et e0 lbClientEarly bg) := S
        have HT5 := Lib.hid ht5
        have HF5 := Lib.hid (HF4.out.trans hf5)
        have LT5 : Hid (T5.length ≤ 164) := by show _ ≤ _; have := X.len; have := LT4.out; omega
        replace HE := Lib.hid (HE.out.ext X)
        replace IO := Lib.hid (IO.out.ext X)
        replace XX := Lib.hid (XX.out.trans X)
        clear p5 e5 ht5 hf5 S X
        go_wp2_with fail
        have key := begin_any w5 HT5.out
        refine key.mono ?_
        clear key
        rintro e w6 p6
        have S := begin_spec (T := T5) (by have := LT5.out; omega)
        have X := textT_ext T5 ByteArray.empty
        obtain ⟨⟨T6, bh⟩, e6⟩ : ∃ r, beginT T5 = r := ⟨_, rfl⟩
        have e6' : textT T5 ByteArray.empty = (T6, bh) := e6
        obtain ⟨rfl, ht6, hf6⟩ := p6.intro e6
        rw [e6] at S
        rw [e6'] at X
        simp only at S X
        have IH := Lib.hid S.in_
        have HT6 := Lib.hid ht6
        have HF6 := Lib.hid (HF5.out.trans hf6)
        have LT6 : Hid (T6.length ≤ 165) := by show _ ≤ _; have := X.len; have := LT5.out; omega
        have FG : Hid (Fit bh) := by have := IH.out.range; have := LT6.out; exact ⟨by omega, by omega⟩
        replace HE := Lib.hid (HE.out.ext X)
        replace IO := Lib.hid (IO.out.ext X)
        replace HET := Lib.hid (HET.out.ext X)
        replace XX := Lib.hid (XX.out.trans X)
        clear p6 e6 e6' ht6 hf6 S X
        go_wp2_with fail
        have key := binder_any e0 bh w6 HT6.out FE.out FG.out (by have := LT6.out; omega)
        refine key.mono ?_
        clear key
        rintro e w7 p7
        obtain ⟨S, X⟩ := fin_spec (T := T6) (k := e0) (tr := bh) (l := lbBinder) HT6.out.1 (by decide) (by have := LT6.out; omega) HE.out.in_ IH.out
        obtain ⟨⟨T7, bi⟩, e7⟩ : ∃ r, macT T6 lbBinder e0 bh = r := ⟨_, rfl⟩
        obtain ⟨rfl, ht7, hf7⟩ := p7.intro e7
        rw [e7] at S X
        simp only at S X
        have HBI : Hid (FinAt T7 bi lbBinder e0 bh) := S
        have HT7 := Lib.hid ht7
        have HF7 := Lib.hid (HF6.out.trans hf7)
        have LT7 : Hid (T7.length ≤ 169) := by show _ ≤ _; have := X.len; have := LT6.out; omega
        replace HE := Lib.hid (HE.out.ext X)
        replace IO := Lib.hid (IO.out.ext X)
        replace HET := Lib.hid (HET.out.ext X)
        replace XX := Lib.hid (XX.out.trans X)
        clear p7 e7 ht7 hf7 S X
        go_wp2_with fail
        have key := shaken_any e0 e0 w7 HT7.out FE.out FE.out
        refine key.mono ?_
        clear key
        rintro e w8 p8
        obtain ⟨r, S, S', X⟩ := shaken_spec (T := T7) (e := e0) (s := e0) HT7.out.1 (by have := LT7.out; omega) HE.out.in_ HE.out.in_
        obtain ⟨⟨T8, sh⟩, e8⟩ : ∃ r, shakenT T7 e0 e0 = r := ⟨_, rfl⟩
        obtain ⟨rfl, ht8, hf8⟩ := p8.intro e8
        rw [e8] at S S' X
        simp only at S S' X
        have HT8 := Lib.hid ht8
        have HF8 := Lib.hid (HF7.out.trans hf8)
        have LT8 : Hid (T8.length ≤ T.length + 30) := by show _ ≤ _; have := (XX.out.trans X).len; omega
        replace HE := Lib.hid (HE.out.ext X)
        replace IO := Lib.hid (IO.out.ext X)
        replace HET := Lib.hid (HET.out.ext X)
        replace HBI := Lib.hid (HBI.out.ext X)
        replace XX := Lib.hid (XX.out.trans X)
        have HSH : Hid (MadeT T8 own sh 3) := ⟨e0, r, HE.out, S, S'⟩
        have HD := Lib.hid (four_news XX.out HO.out HOwn.out (a := e0) (b := et) (c := bi) (d := sh) HE.out ⟨e0, bg, HE.out, HET.out⟩ ⟨e0, bh, HE.out, HBI.out⟩ HSH.out)
        have HO8 := Lib.hid (old_next XX.out HO.out IO.out (a := e0) (b := et) (c := bi) (d := sh) HE.out ⟨e0, bg, HE.out, HET.out⟩ ⟨e0, bh, HE.out, HBI.out⟩ HSH.out)
        have HNZ : Hid (∀ j, j < 4 → ¬ nth [e0, et, bi, sh] j = 0) := fun j hj => by
          match j, hj with
          | 0, _ => have := HE.out.in_.range; show ¬ e0 = 0; omega
          | 1, _ => have := HET.out.in_.range; show ¬ et = 0; omega
          | 2, _ => have := HBI.out.in_.range; show ¬ bi = 0; omega
          | 3, _ => have := S'.in_.range; show ¬ sh = 0; omega
        obtain ⟨A, hA⟩ : ∃ A : List Int, A = [e0, et, bi, sh] := ⟨_, rfl⟩
        have HV8 := Lib.hid (HV2.out.frm HF8.out.tab_sp)
        have HB8 := Lib.hid (HB2.out.trans (HF8.out.below HB2.out.size))
        obtain ⟨W, hW⟩ : ∃ W, W = w8.alloc (.cells #[.int .i64 e0, .int .i64 et, .int .i64 bi, .int .i64 sh] 25) := ⟨_, rfl⟩
        have HAll : Hid (OwnZ W w.heap.size (.slice (some ⟨w8.heap.size, 0, none⟩) 4 4) A) := by
          rw [hW, hA]
          exact .inr ⟨w8.heap.size, 0, 25, rfl, HB8.out.size, heap_alloc_new w8 _, sp_term, by simp⟩
        have HTW : Hid (IsTab w.heap.size W tb T8) := by rw [hW]; exact HT8.out.below (below_new _)
        have HVW : Hid (OwnZ W w.heap.size u4 S0) := by rw [hW]; exact HV8.out.below (below_new _)
        have HBW : Hid (Below w.heap.size w W) := by rw [hW]; exact HB8.out.alloc HB8.out.size _
        have HAp : Hid (Apart u4 (.slice (some ⟨w8.heap.size, 0, none⟩) 4 4)) := fun q hq e => by
          have h1 := (HV8.out.lt q hq).2
          simp only [Value.ownBlock, Option.some.injEq] at e
          omega
        have HAl : Hid (A.length = 4) := by rw [hA]; rfl
        rw [← hA] at HD HO8 HNZ
        clear p8 e8 ht8 hf8 S S' X hA HT2 HT3 HT4 HT5 HT6 HT7 HT8 HF3 HF4 HF5 HF6 HF7 HF8 HE HET HBI HSH IO IB IH HOwn HV8 HB8 HT HV HB HV2 HB2
        go_wp2_with fail
        rw [← hW]
        clear hW
        go_loopw [4, 9] (fun v4 v9 wz => ∃ j : Nat, j ≤ 4 ∧ v9 = .int .i64 j ∧ OwnZ wz w.heap.size v4 (S0 ++ A.take j) ∧ IsTab w.heap.size wz tb T8 ∧ OwnZ wz w.heap.size (.slice (some ⟨w8.heap.size, 0, none⟩) 4 4) A ∧ Apart v4 (.slice (some ⟨w8.heap.size, 0, none⟩) 4 4) ∧ Below w.heap.size w wz) (fun _ v9 _ => 4 - (intOf v9).toNat)
        case atStart => exact ⟨0, Nat.zero_le _, rfl, by simpa using HVW.out, HTW.out, HAll.out, HAp.out, HBW.out⟩
        case round =>
          obtain ⟨j, hj, rfl, hv, ht, ha, hap, hb⟩ := hrel
          have HV := Lib.hid hv
          have HT := Lib.hid ht
          have HA := Lib.hid ha
          have HP := Lib.hid hap
          have HB := Lib.hid hb
          clear hv ht ha hap hb HVW HTW HAll HAp HBW
          by_cases hlt4 : j < 4
          · obtain ⟨g5, c5, e5, -, hg5, -, hx5, -, -⟩ := HA.out.own.form (by rw [HAl.out]; omega)
            rw [HAl.out] at e5 hx5
            cases e5
            have x5 := hx5 j hlt4
            have hnz := HNZ.out j hlt4
            obtain ⟨x, hx⟩ : ∃ x, x = nth A j := ⟨_, rfl⟩
            rw [← hx] at x5 hnz
            have hxb : (x == 0) = false := by simp [hnz]
            have HXJ := Lib.hid hx
            have HDJ : Hid (∀ y ∈ S0 ++ A.take j, ¬ y = x) := by rw [hx]; exact HD.out j hlt4
            have hj0 : (0 : Int) ≤ (j : Int) := by omega
            have hj4 : (j : Int) < 4 := by omega
            obtain ⟨A8, c8, rfl⟩ := HV.out.own.slice
            have HR8 := Lib.hid (HV.out.own.rds (B' := 0))
            have hlen : (S0 ++ A.take j).length = 4 * k + j := by have := HAl.out; have := hSl; simp; omega
            have HLen := Lib.hid hlen
            rw [hlen]
            rw [hlen] at HR8
            clear hx5 hx hnz hlen
            go_wp2_with fail
            go_loopw [10] (fun v10 wy => ∃ q : Nat, q ≤ 4 * k + j ∧ v10 = .int .i64 q ∧ ∃ d, wy = wr.drewN d) (fun v10 _ => 4 * k + j - (intOf v10).toNat)
            case atStart => exact ⟨0, Nat.zero_le _, rfl, 0, rfl⟩
            case round =>
              obtain ⟨q, hq, rfl, d, rfl⟩ := hrel
              by_cases hqN : q < 4 * k + j
              · obtain ⟨b, o, rfl, hcx⟩ := RdI.at_ HR8.out.cell (by rw [HLen.out]; omega)
                have g1 := hcx q (by rw [HLen.out]; exact hqN)
                have hne := HDJ.out _ (nth_mem (xs := S0 ++ A.take j) (j := q) (by rw [HLen.out]; exact hqN))
                obtain ⟨y, hy⟩ : ∃ y, y = nth (S0 ++ A.take j) q := ⟨_, rfl⟩
                rw [← hy] at g1 hne
                have hneb : (y == x) = false := beq_eq_false_iff_ne.2 hne
                have hq0 : (0 : Int) ≤ (q : Int) := by omega
                have hqi : (q : Int) < ((4 * k + j : Nat) : Int) := by omega
                clear hcx hy hne
                go_wp2
                go_quiet (fail)
                go_wp2
                go_roundw
                case rel => exact ⟨q + 1, by omega, by go_num, _, rfl⟩
                case measure => simp [intOf]; omega
              · obtain rfl : q = 4 * k + j := by omega
                have HT9 := Lib.hid (HT.out.below (below_drewN (Below.refl _ _) d))
                have HV9 := Lib.hid (HV.out.below (below_drewN (Below.refl _ _) d))
                have HA9 := Lib.hid (HA.out.below (below_drewN (Below.refl _ _) d))
                have HB9 := Lib.hid (below_drewN HB.out d)
                have hB9s := HB9.out.size
                obtain ⟨wq, hwq⟩ : ∃ q, q = wr.drewN d := ⟨_, rfl⟩
                rw [← hwq] at HT9 HV9 HA9 HB9 hB9s ⊢
                replace x5 : wq.cell? ⟨w8.heap.size, j, none⟩ = some (.int .i64 x) := by rw [hwq]; simpa [go_sem] using x5
                clear hwq
                rw [HLen.out] at HV9 HP
                have HVA := Lib.hid (HV9.out.below (below_new (.cells #[.int .i64 x] 25)))
                have HAA := Lib.hid (HA9.out.below (below_new (.cells #[.int .i64 x] 25)))
                go_wp2_with (at_builtin; refine wp_app_one (v := .slice A8 (4 * k + j) c8) rfl _ _ rfl x wq.heap.size 0 1 rfl rfl HVA.out (cell_new_one wq x 25) (Nat.le_trans hB9s (size_new wq _)) (by rw [HLen.out]; omega) ?_; intro v8' w9 hz9 hzf9 hfr9 hb9)
                have HT10 := Lib.hid ((HT9.out.below (below_new (.cells #[.int .i64 x] 25))).zfr hzf9 HVA.out.plain)
                have HA10 := Lib.hid (HAA.out.zfr hzf9 HP.out)
                have HP10 := Lib.hid (apart_next HP.out hfr9 (fun q hq => (HAA.out.lt q hq).2))
                have HB10 := Lib.hid ((HB9.out.alloc hB9s _).trans hb9)
                have HV10 : Hid (OwnZ w9 w.heap.size v8' (S0 ++ A.take (j + 1))) := by
                  rw [← take_snoc4 (by rw [HAl.out]; exact hlt4), ← HXJ.out]
                  exact hz9
                clear hz9 hzf9 hfr9 hb9 HT9 HV9 HA9 HB9 HVA HAA
                go_wp2_with fail
                go_roundw
                case rel => exact ⟨j + 1, by omega, by go_num, HV10.out, HT10.out, HA10.out, HP10.out, HB10.out⟩
                case measure => simp [intOf]; omega
          · obtain rfl : j = 4 := by omega
            go_wp2_with fail
            go_roundw
            case rel => exact ⟨k + 1, T8, S0 ++ A, by omega, by go_num, by have := HV.out; rwa [List.take_of_length_le (by have := HAl.out; omega)] at this, by simp [hSl, HAl.out]; omega, HT.out, HO8.out, by have := LT8.out; omega, HB.out⟩
            case measure => simp [intOf]; omega
      · have hkp : (0 : Int) < (k : Int) := by omega
        have key := secret_any wr HT.out
        have E1 := secret_new (T := T) (by omega)
        go_wp2_with fail
        refine key.mono ?_
        clear key
        rintro e w2 p2
        obtain ⟨rfl, ht2, hf2⟩ := p2.intro E1
        obtain ⟨T2, hT2⟩ : ∃ T2, T2 = T ++ [⟨2, ByteArray.empty, []⟩] := ⟨_, rfl⟩
        rw [← hT2] at ht2
        obtain ⟨h, hh⟩ : ∃ h : Int, h = (T.length : Int) + 1 := ⟨_, rfl⟩
        have X2 : Hid (Ext 1 T T2) := ⟨[⟨2, ByteArray.empty, []⟩], hT2, by simp⟩
        have IH2 : In T2 h := by rw [hh, hT2]; exact ⟨⟨2, ByteArray.empty, []⟩, by rw [getT_nat]; simp⟩
        have HH : Hid (h = 0 ∨ In T2 h) := .inr IH2
        have hne : h ≠ 0 := by omega
        have HN : Hid (∀ own, (h ≠ 0 → own = h) → ¬ In T own ∨ S0 = []) := fun own ho => .inl (by rw [ho hne]; exact out_of (by omega))
        have HT2 := Lib.hid ht2
        have HV2 := Lib.hid (HV.out.frm hf2.tab_sp)
        have HB2 := Lib.hid (HB.out.trans (hf2.below HB.out.size))
        have LT2 : Hid (T2.length ≤ 155) := by show _ ≤ _; rw [hT2]; simp; omega
        have FH : Hid (Fit h) := ⟨by omega, by omega⟩
        rw [← hh]
        clear p2 ht2 hf2 hT2 hh IH2 hne E1 hTl'
        go_wp2_with fail
        have key := early_any h w2 HT2.out FH.out
        refine key.mono ?_
        clear key
        rintro e w3 p3
        obtain ⟨own, S1, S2, S3, X3⟩ := early_spec (T := T2) (h := h) HT2.out.1 (by have := LT2.out; omega) HH.out
        obtain ⟨⟨T3, e0⟩, e3⟩ : ∃ r, earlyT T2 h = r := ⟨_, rfl⟩
        obtain ⟨rfl, ht3, hf3⟩ := p3.intro e3
        rw [e3] at S2 S3 X3
        simp only at S2 S3 X3
        have IO : Hid (In T3 own) := by
          by_cases hz : h = 0
          · exact ⟨_, S2 hz⟩
          · rw [S1 hz]; exact (HH.out.resolve_left hz).ext X3
        have HOwn : Hid (¬ In T own ∨ S0 = []) := HN.out own S1
        have HE := Lib.hid S3
        have HT3 := Lib.hid ht3
        have HF3 := Lib.hid hf3
        have XX := Lib.hid (X2.out.trans X3)
        have LT3 : Hid (T3.length ≤ 160) := by show _ ≤ _; have := X3.len; have := LT2.out; omega
        have FE : Hid (Fit e0) := by have := HE.out.in_.range; have := LT3.out; exact ⟨by omega, by omega⟩
        clear p3 e3 ht3 hf3 S1 S2 S3 X3
        go_wp2_with fail
        have key := begin_any w3 HT3.out
        refine key.mono ?_
        clear key
        rintro e w4 p4
        have S := begin_spec (T := T3) (by have := LT3.out; omega)
        have X := textT_ext T3 ByteArray.empty
        obtain ⟨⟨T4, bg⟩, e4⟩ : ∃ r, beginT T3 = r := ⟨_, rfl⟩
        have e4' : textT T3 ByteArray.empty = (T4, bg) := e4
        obtain ⟨rfl, ht4, hf4⟩ := p4.intro e4
        rw [e4] at S
        rw [e4'] at X
        simp only at S X
        have IB := Lib.hid S.in_
        have HT4 := Lib.hid ht4
        have HF4 := Lib.hid (HF3.out.trans hf4)
        have LT4 : Hid (T4.length ≤ 161) := by show _ ≤ _; have := X.len; have := LT3.out; omega
        have FB : Hid (Fit bg) := by have := IB.out.range; have := LT4.out; exact ⟨by omega, by omega⟩
        replace HE := Lib.hid (HE.out.ext X)
        replace IO := Lib.hid (IO.out.ext X)
        replace XX := Lib.hid (XX.out.trans X)
        clear p4 e4 e4' ht4 hf4 S X
        go_wp2_with fail
        have key := earlyTraffic_any e0 bg w4 HT4.out FE.out FB.out
        refine key.mono ?_
        clear key
        rintro e w5 p5
        obtain ⟨S, X⟩ := behind_spec (T := T4) (s := e0) (tr := bg) (l := lbClientEarly) HT4.out.1 (by decide) (by have := LT4.out; omega) HE.out.in_ IB.out
        obtain ⟨⟨T5, et⟩, e5⟩ : ∃ r, behindT T4 lbClientEarly e0 bg = r := ⟨_, rfl⟩
        obtain ⟨rfl, ht5, hf5⟩ := p5.intro e5
        rw [e5] at S X
        simp only at S X
        have HET : Hid (DerAt T5 et e0 lbClientEarly bg) := S
        have HT5 := Lib.hid ht5
        have HF5 := Lib.hid (HF4.out.trans hf5)
        have LT5 : Hid (T5.length ≤ 164) := by show _ ≤ _; have := X.len; have := LT4.out; omega
        replace HE := Lib.hid (HE.out.ext X)
        replace IO := Lib.hid (IO.out.ext X)
        replace XX := Lib.hid (XX.out.trans X)
        clear p5 e5 ht5 hf5 S X
        go_wp2_with fail
        have key := begin_any w5 HT5.out
        refine key.mono ?_
        clear key
        rintro e w6 p6
        have S := begin_spec (T := T5) (by have := LT5.out; omega)
        have X := textT_ext T5 ByteArray.empty
        obtain ⟨⟨T6, bh⟩, e6⟩ : ∃ r, beginT T5 = r := ⟨_, rfl⟩
        have e6' : textT T5 ByteArray.empty = (T6, bh) := e6
        obtain ⟨rfl, ht6, hf6⟩ := p6.intro e6
        rw [e6] at S
        rw [e6'] at X
        simp only at S X
        have IH := Lib.hid S.in_
        have HT6 := Lib.hid ht6
        have HF6 := Lib.hid (HF5.out.trans hf6)
        have LT6 : Hid (T6.length ≤ 165) := by show _ ≤ _; have := X.len; have := LT5.out; omega
        have FG : Hid (Fit bh) := by have := IH.out.range; have := LT6.out; exact ⟨by omega, by omega⟩
        replace HE := Lib.hid (HE.out.ext X)
        replace IO := Lib.hid (IO.out.ext X)
        replace HET := Lib.hid (HET.out.ext X)
        replace XX := Lib.hid (XX.out.trans X)
        clear p6 e6 e6' ht6 hf6 S X
        go_wp2_with fail
        have key := binder_any e0 bh w6 HT6.out FE.out FG.out (by have := LT6.out; omega)
        refine key.mono ?_
        clear key
        rintro e w7 p7
        obtain ⟨S, X⟩ := fin_spec (T := T6) (k := e0) (tr := bh) (l := lbBinder) HT6.out.1 (by decide) (by have := LT6.out; omega) HE.out.in_ IH.out
        obtain ⟨⟨T7, bi⟩, e7⟩ : ∃ r, macT T6 lbBinder e0 bh = r := ⟨_, rfl⟩
        obtain ⟨rfl, ht7, hf7⟩ := p7.intro e7
        rw [e7] at S X
        simp only at S X
        have HBI : Hid (FinAt T7 bi lbBinder e0 bh) := S
        have HT7 := Lib.hid ht7
        have HF7 := Lib.hid (HF6.out.trans hf7)
        have LT7 : Hid (T7.length ≤ 169) := by show _ ≤ _; have := X.len; have := LT6.out; omega
        replace HE := Lib.hid (HE.out.ext X)
        replace IO := Lib.hid (IO.out.ext X)
        replace HET := Lib.hid (HET.out.ext X)
        replace XX := Lib.hid (XX.out.trans X)
        clear p7 e7 ht7 hf7 S X
        go_wp2_with fail
        have key := shaken_any e0 e0 w7 HT7.out FE.out FE.out
        refine key.mono ?_
        clear key
        rintro e w8 p8
        obtain ⟨r, S, S', X⟩ := shaken_spec (T := T7) (e := e0) (s := e0) HT7.out.1 (by have := LT7.out; omega) HE.out.in_ HE.out.in_
        obtain ⟨⟨T8, sh⟩, e8⟩ : ∃ r, shakenT T7 e0 e0 = r := ⟨_, rfl⟩
        obtain ⟨rfl, ht8, hf8⟩ := p8.intro e8
        rw [e8] at S S' X
        simp only at S S' X
        have HT8 := Lib.hid ht8
        have HF8 := Lib.hid (HF7.out.trans hf8)
        have LT8 : Hid (T8.length ≤ T.length + 30) := by show _ ≤ _; have := (XX.out.trans X).len; omega
        replace HE := Lib.hid (HE.out.ext X)
        replace IO := Lib.hid (IO.out.ext X)
        replace HET := Lib.hid (HET.out.ext X)
        replace HBI := Lib.hid (HBI.out.ext X)
        replace XX := Lib.hid (XX.out.trans X)
        have HSH : Hid (MadeT T8 own sh 3) := ⟨e0, r, HE.out, S, S'⟩
        have HD := Lib.hid (four_news XX.out HO.out HOwn.out (a := e0) (b := et) (c := bi) (d := sh) HE.out ⟨e0, bg, HE.out, HET.out⟩ ⟨e0, bh, HE.out, HBI.out⟩ HSH.out)
        have HO8 := Lib.hid (old_next XX.out HO.out IO.out (a := e0) (b := et) (c := bi) (d := sh) HE.out ⟨e0, bg, HE.out, HET.out⟩ ⟨e0, bh, HE.out, HBI.out⟩ HSH.out)
        have HNZ : Hid (∀ j, j < 4 → ¬ nth [e0, et, bi, sh] j = 0) := fun j hj => by
          match j, hj with
          | 0, _ => have := HE.out.in_.range; show ¬ e0 = 0; omega
          | 1, _ => have := HET.out.in_.range; show ¬ et = 0; omega
          | 2, _ => have := HBI.out.in_.range; show ¬ bi = 0; omega
          | 3, _ => have := S'.in_.range; show ¬ sh = 0; omega
        obtain ⟨A, hA⟩ : ∃ A : List Int, A = [e0, et, bi, sh] := ⟨_, rfl⟩
        have HV8 := Lib.hid (HV2.out.frm HF8.out.tab_sp)
        have HB8 := Lib.hid (HB2.out.trans (HF8.out.below HB2.out.size))
        obtain ⟨W, hW⟩ : ∃ W, W = w8.alloc (.cells #[.int .i64 e0, .int .i64 et, .int .i64 bi, .int .i64 sh] 25) := ⟨_, rfl⟩
        have HAll : Hid (OwnZ W w.heap.size (.slice (some ⟨w8.heap.size, 0, none⟩) 4 4) A) := by
          rw [hW, hA]
          exact .inr ⟨w8.heap.size, 0, 25, rfl, HB8.out.size, heap_alloc_new w8 _, sp_term, by simp⟩
        have HTW : Hid (IsTab w.heap.size W tb T8) := by rw [hW]; exact HT8.out.below (below_new _)
        have HVW : Hid (OwnZ W w.heap.size u4 S0) := by rw [hW]; exact HV8.out.below (below_new _)
        have HBW : Hid (Below w.heap.size w W) := by rw [hW]; exact HB8.out.alloc HB8.out.size _
        have HAp : Hid (Apart u4 (.slice (some ⟨w8.heap.size, 0, none⟩) 4 4)) := fun q hq e => by
          have h1 := (HV8.out.lt q hq).2
          simp only [Value.ownBlock, Option.some.injEq] at e
          omega
        have HAl : Hid (A.length = 4) := by rw [hA]; rfl
        rw [← hA] at HD HO8 HNZ
        clear p8 e8 ht8 hf8 S S' X hA HT2 HT3 HT4 HT5 HT6 HT7 HT8 HF3 HF4 HF5 HF6 HF7 HF8 HE HET HBI HSH IO IB IH HOwn HV8 HB8 HT HV HB HV2 HB2
        go_wp2_with fail
        rw [← hW]
        clear hW
        go_loopw [4, 9] (fun v4 v9 wz => ∃ j : Nat, j ≤ 4 ∧ v9 = .int .i64 j ∧ OwnZ wz w.heap.size v4 (S0 ++ A.take j) ∧ IsTab w.heap.size wz tb T8 ∧ OwnZ wz w.heap.size (.slice (some ⟨w8.heap.size, 0, none⟩) 4 4) A ∧ Apart v4 (.slice (some ⟨w8.heap.size, 0, none⟩) 4 4) ∧ Below w.heap.size w wz) (fun _ v9 _ => 4 - (intOf v9).toNat)
        case atStart => exact ⟨0, Nat.zero_le _, rfl, by simpa using HVW.out, HTW.out, HAll.out, HAp.out, HBW.out⟩
        case round =>
          obtain ⟨j, hj, rfl, hv, ht, ha, hap, hb⟩ := hrel
          have HV := Lib.hid hv
          have HT := Lib.hid ht
          have HA := Lib.hid ha
          have HP := Lib.hid hap
          have HB := Lib.hid hb
          clear hv ht ha hap hb HVW HTW HAll HAp HBW
          by_cases hlt4 : j < 4
          · obtain ⟨g5, c5, e5, -, hg5, -, hx5, -, -⟩ := HA.out.own.form (by rw [HAl.out]; omega)
            rw [HAl.out] at e5 hx5
            cases e5
            have x5 := hx5 j hlt4
            have hnz := HNZ.out j hlt4
            obtain ⟨x, hx⟩ : ∃ x, x = nth A j := ⟨_, rfl⟩
            rw [← hx] at x5 hnz
            have hxb : (x == 0) = false := by simp [hnz]
            have HXJ := Lib.hid hx
            have HDJ : Hid (∀ y ∈ S0 ++ A.take j, ¬ y = x) := by rw [hx]; exact HD.out j hlt4
            have hj0 : (0 : Int) ≤ (j : Int) := by omega
            have hj4 : (j : Int) < 4 := by omega
            obtain ⟨A8, c8, rfl⟩ := HV.out.own.slice
            have HR8 := Lib.hid (HV.out.own.rds (B' := 0))
            have hlen : (S0 ++ A.take j).length = 4 * k + j := by have := HAl.out; have := hSl; simp; omega
            have HLen := Lib.hid hlen
            rw [hlen]
            rw [hlen] at HR8
            clear hx5 hx hnz hlen
            go_wp2_with fail
            go_loopw [10] (fun v10 wy => ∃ q : Nat, q ≤ 4 * k + j ∧ v10 = .int .i64 q ∧ ∃ d, wy = wr.drewN d) (fun v10 _ => 4 * k + j - (intOf v10).toNat)
            case atStart => exact ⟨0, Nat.zero_le _, rfl, 0, rfl⟩
            case round =>
              obtain ⟨q, hq, rfl, d, rfl⟩ := hrel
              by_cases hqN : q < 4 * k + j
              · obtain ⟨b, o, rfl, hcx⟩ := RdI.at_ HR8.out.cell (by rw [HLen.out]; omega)
                have g1 := hcx q (by rw [HLen.out]; exact hqN)
                have hne := HDJ.out _ (nth_mem (xs := S0 ++ A.take j) (j := q) (by rw [HLen.out]; exact hqN))
                obtain ⟨y, hy⟩ : ∃ y, y = nth (S0 ++ A.take j) q := ⟨_, rfl⟩
                rw [← hy] at g1 hne
                have hneb : (y == x) = false := beq_eq_false_iff_ne.2 hne
                have hq0 : (0 : Int) ≤ (q : Int) := by omega
                have hqi : (q : Int) < ((4 * k + j : Nat) : Int) := by omega
                clear hcx hy hne
                go_wp2
                go_quiet (fail)
                go_wp2
                go_roundw
                case rel => exact ⟨q + 1, by omega, by go_num, _, rfl⟩
                case measure => simp [intOf]; omega
              · obtain rfl : q = 4 * k + j := by omega
                have HT9 := Lib.hid (HT.out.below (below_drewN (Below.refl _ _) d))
                have HV9 := Lib.hid (HV.out.below (below_drewN (Below.refl _ _) d))
                have HA9 := Lib.hid (HA.out.below (below_drewN (Below.refl _ _) d))
                have HB9 := Lib.hid (below_drewN HB.out d)
                have hB9s := HB9.out.size
                obtain ⟨wq, hwq⟩ : ∃ q, q = wr.drewN d := ⟨_, rfl⟩
                rw [← hwq] at HT9 HV9 HA9 HB9 hB9s ⊢
                replace x5 : wq.cell? ⟨w8.heap.size, j, none⟩ = some (.int .i64 x) := by rw [hwq]; simpa [go_sem] using x5
                clear hwq
                rw [HLen.out] at HV9 HP
                have HVA := Lib.hid (HV9.out.below (below_new (.cells #[.int .i64 x] 25)))
                have HAA := Lib.hid (HA9.out.below (below_new (.cells #[.int .i64 x] 25)))
                go_wp2_with (at_builtin; refine wp_app_one (v := .slice A8 (4 * k + j) c8) rfl _ _ rfl x wq.heap.size 0 1 rfl rfl HVA.out (cell_new_one wq x 25) (Nat.le_trans hB9s (size_new wq _)) (by rw [HLen.out]; omega) ?_; intro v8' w9 hz9 hzf9 hfr9 hb9)
                have HT10 := Lib.hid ((HT9.out.below (below_new (.cells #[.int .i64 x] 25))).zfr hzf9 HVA.out.plain)
                have HA10 := Lib.hid (HAA.out.zfr hzf9 HP.out)
                have HP10 := Lib.hid (apart_next HP.out hfr9 (fun q hq => (HAA.out.lt q hq).2))
                have HB10 := Lib.hid ((HB9.out.alloc hB9s _).trans hb9)
                have HV10 : Hid (OwnZ w9 w.heap.size v8' (S0 ++ A.take (j + 1))) := by
                  rw [← take_snoc4 (by rw [HAl.out]; exact hlt4), ← HXJ.out]
                  exact hz9
                clear hz9 hzf9 hfr9 hb9 HT9 HV9 HA9 HB9 HVA HAA
                go_wp2_with fail
                go_roundw
                case rel => exact ⟨j + 1, by omega, by go_num, HV10.out, HT10.out, HA10.out, HP10.out, HB10.out⟩
                case measure => simp [intOf]; omega
          · obtain rfl : j = 4 := by omega
            go_wp2_with fail
            go_roundw
            case rel => exact ⟨k + 1, T8, S0 ++ A, by omega, by go_num, by have := HV.out; rwa [List.take_of_length_le (by have := HAl.out; omega)] at this, by simp [hSl, HAl.out]; omega, HT.out, HO8.out, by have := LT8.out; omega, HB.out⟩
            case measure => simp [intOf]; omega
    · have hcl : ¬ (k : Int) < n % 5 + 1 := by rw [← HM.out]; omega
      go_wp2_with fail
      refine (awake15_any _).mono ?_
      rintro e w9 ⟨rfl, hb9⟩
      have HB9 := Lib.hid (below_next HB.out HB.out.size hb9)
      clear hb9
      go_wp2_with fail
      go_ret
      exact ⟨rfl, HB9.out⟩
theorem tickets_row (w : World) (a : Int) (wa : (Lit.int .u8 a).wf = true) : Calls Try.prog 4 #[.int .u8 a] w fun e w' => e = .returned (.bool true) ∧ Below w.heap.size w w' := by
  have b := bounds_u8 wa
  exact tickets_walk w a b.1 b.2
end Go.Proofs.Ytbcicfgffjgpdaa
