/- The walk of TermShares. No condition. -/
import Derived.Test.YtoelbhmgmlnieaaZero
set_option linter.unusedVariables false
set_option linter.unusedSimpArgs false
namespace Go.Proofs.Ytoelbhmgmlnieaa
open Go Go.RowKit Go.WideMaps

def shT : Nat → List Nd
  | 0 => []
  | k + 1 => shT k ++ [nS, nP (2 * k + 1)]
theorem shT_length (k : Nat) : (shT k).length = 2 * k := by induction k with
  | zero => rfl
  | succ k ih => simp [shT, ih]; omega
theorem shT_sec {i k : Nat} (h : i < k) (R : List Nd) : getT (shT k ++ R) (2 * (i : Int) + 1) = some nS ∧ getT (shT k ++ R) (2 * (i : Int) + 2) = some (nP (2 * i + 1)) := by
  induction k generalizing R with
  | zero => omega
  | succ k ih =>
    by_cases hk : i < k
    · have := ih hk ([nS, nP (2 * k + 1)] ++ R)
      simpa [shT] using this
    · obtain rfl : i = k := by omega
      have e1 : (2 * (i : Int) + 1) = ((2 * i : Nat) : Int) + 1 := by push_cast; rfl
      have e2 : (2 * (i : Int) + 2) = ((2 * i + 1 : Nat) : Int) + 1 := by push_cast; omega
      have l := shT_length i
      rw [e1, e2, getT_nat, getT_nat]
      simp only [shT, List.append_assoc]
      constructor
      · rw [List.getElem?_append_right (by omega), l]; simp
      · rw [List.getElem?_append_right (by omega), l]; simp
theorem shT_kind {k : Nat} : ∀ n ∈ shT k, n.kind ≠ 8 := by
  induction k with
  | zero => intro n h; simp [shT] at h
  | succ k ih =>
    intro n h
    simp only [shT, List.mem_append, List.mem_cons, List.not_mem_nil, or_false] at h
    rcases h with h | rfl | rfl
    · exact ih n h
    · simp [nS]
    · simp [nP]
theorem add_new {T : List Nd} {n : Nd} (hno : ∀ i : Nat, T[i]? ≠ some n) (hl : T.length < 65536) : addT T n = (T ++ [n], (T.length : Int) + 1) := by
  unfold addT
  have : (if n.kind = 2 then none else lookT T n) = none := by
    split
    · rfl
    · cases h : lookT T n with
      | none => rfl
      | some i => exact absurd (lookT_some h) (hno i)
  rw [this]
  simp only [if_neg (show ¬ T.length = 65536 by omega)]
theorem sh_secret (i : Nat) (h : i < 100) : secretT (shT i) = (shT i ++ [nS], 2 * (i : Int) + 1) := by
  have l := shT_length i
  unfold secretT addT
  rw [if_pos rfl]
  simp only [if_neg (show ¬ (shT i).length = 65536 by omega)]
  simp [l, nS]
theorem sh_public (i : Nat) (h : i < 100) (hw : WfT (shT i ++ [nS])) : makeT (shT i ++ [nS]) 7 [2 * (i : Int) + 1] = (shT (i + 1), 2 * (i : Int) + 2) := by
  have l := shT_length i
  have e1 : (2 * (i : Int) + 1) = ((2 * i : Nat) : Int) + 1 := by push_cast; rfl
  have g : getT (shT i ++ [nS]) (2 * (i : Int) + 1) = some nS := by
    rw [e1, getT_nat, List.getElem?_append_right (by omega), l]; simp
  have hm : [2 * (i : Int) + 1].map (kindT (shT i ++ [nS])) = [2] := by simp only [List.map_cons, List.map_nil, kindT_get g]; rfl
  rw [make_yes (by rw [hm]; simp) (by rw [hm]; rfl), show ownT (shT i ++ [nS]) 7 [2 * (i : Int) + 1] = [2 * (i : Int) + 1] from rfl]
  rw [add_new ?_ (by simp; omega)]
  · have : (⟨7, ByteArray.empty, [2 * (i : Int) + 1]⟩ : Nd) = nP (2 * i + 1) := by simp [nP]
    rw [this]
    simp [shT, l]; omega
  · intro a ha
    have hr := (hw.good a _ ha).range (2 * (i : Int) + 1) (by simp)
    have hla := (List.getElem?_eq_some_iff.1 ha).1
    simp at hla
    omega
def kn (q : Nat × Nat) : Nd := nK (2 * (q.2 : Int) + 1) (2 * (q.1 : Int) + 1)
theorem kn_inj {p q : Nat × Nat} (h : kn p = kn q) : p = q := by
  simp [kn, nK] at h
  cases p; cases q
  simp at *
  omega
def prT (k : Nat) (P : List (Nat × Nat)) : List Nd := shT k ++ P.map kn
theorem prT_length (k : Nat) (P : List (Nat × Nat)) : (prT k P).length = 2 * k + P.length := by simp [prT, shT_length]
theorem kn_new {k : Nat} {P : List (Nat × Nat)} {q : Nat × Nat} (hq : q ∉ P) : ∀ a : Nat, (prT k P)[a]? ≠ some (kn q) := by
  intro a ha
  have := List.mem_of_getElem? ha
  simp only [prT, List.mem_append, List.mem_map] at this
  rcases this with h | ⟨p, hp, e⟩
  · exact shT_kind _ h rfl
  · exact hq (kn_inj e ▸ hp)
theorem sh_first {k : Nat} {P : List (Nat × Nat)} {i j : Nat} (hi : i < k) (hj : j ≤ i) (hk : k < 100) (hP : P.length < 1000) (hq : (i, j) ∉ P) :
    makeT (prT k P) 8 [2 * (i : Int) + 1, 2 * (j : Int) + 2] = (prT k (P ++ [(i, j)]), 2 * (k : Int) + P.length + 1) := by
  have g1 := (shT_sec hi (P.map kn)).1
  have g2 := (shT_sec (show j < k by omega) (P.map kn)).2
  have hm : [2 * (i : Int) + 1, 2 * (j : Int) + 2].map (kindT (prT k P)) = [2, 7] := by simp [prT, kindT_get g1, kindT_get g2, nS, nP]
  have ho : ownT (prT k P) 8 [2 * (i : Int) + 1, 2 * (j : Int) + 2] = [2 * (j : Int) + 1, 2 * (i : Int) + 1] := by
    unfold ownT
    rw [if_pos rfl, show nth [2 * (i : Int) + 1, 2 * (j : Int) + 2] 1 = 2 * (j : Int) + 2 from rfl, show getT (prT k P) (2 * (j : Int) + 2) = _ from g2]
    show sort2 (2 * (i : Int) + 1) (2 * (j : Int) + 1) = _
    unfold sort2
    split
    · rfl
    · have : j = i := by omega
      subst this; rfl
  rw [make_yes (by rw [hm]; simp) (by rw [hm]; rfl), ho, show (⟨8, ByteArray.empty, [2 * (j : Int) + 1, 2 * (i : Int) + 1]⟩ : Nd) = kn (i, j) from rfl, add_new (kn_new hq) (by rw [prT_length]; omega)]
  rw [prT_length]
  refine Prod.ext ?_ ?_
  · simp [prT]
  · simp
theorem sh_second {k : Nat} {P : List (Nat × Nat)} {i j : Nat} (hi : i < k) (hj : j ≤ i) (hw : WfT (prT k (P ++ [(i, j)]))) :
    makeT (prT k (P ++ [(i, j)])) 8 [2 * (j : Int) + 1, 2 * (i : Int) + 2] = (prT k (P ++ [(i, j)]), 2 * (k : Int) + P.length + 1) := by
  have g1 := (shT_sec (show j < k by omega) ((P ++ [(i, j)]).map kn)).1
  have g2 := (shT_sec hi ((P ++ [(i, j)]).map kn)).2
  have hm : [2 * (j : Int) + 1, 2 * (i : Int) + 2].map (kindT (prT k (P ++ [(i, j)]))) = [2, 7] := by simp only [prT, List.map_cons, List.map_nil, kindT_get g1, kindT_get g2]; rfl
  have ho : ownT (prT k (P ++ [(i, j)])) 8 [2 * (j : Int) + 1, 2 * (i : Int) + 2] = [2 * (j : Int) + 1, 2 * (i : Int) + 1] := by
    unfold ownT
    rw [if_pos rfl, show nth [2 * (j : Int) + 1, 2 * (i : Int) + 2] 1 = 2 * (i : Int) + 2 from rfl, show getT (prT k (P ++ [(i, j)])) (2 * (i : Int) + 2) = _ from g2]
    show sort2 (2 * (j : Int) + 1) (2 * (i : Int) + 1) = _
    unfold sort2
    rw [if_neg (by omega)]
  rw [make_yes (by rw [hm]; simp) (by rw [hm]; rfl), ho, show (⟨8, ByteArray.empty, [2 * (j : Int) + 1, 2 * (i : Int) + 1]⟩ : Nd) = kn (i, j) from rfl]
  have hat : (prT k (P ++ [(i, j)]))[2 * k + P.length]? = some (kn (i, j)) := by
    have := prT_length k P
    rw [show prT k (P ++ [(i, j)]) = prT k P ++ [kn (i, j)] by simp [prT], List.getElem?_append_right (by omega), this]; simp
  unfold addT
  rw [if_neg (by simp [kn, nK]), lookT_of hw hat (by simp [kn, nK])]
  simp
def secs (i : Nat) : List Int := (List.range i).map fun j : Nat => 2 * (j : Int) + 1
def pubs (i : Nat) : List Int := (List.range i).map fun j : Nat => 2 * (j : Int) + 2
theorem secs_length (i : Nat) : (secs i).length = i := by simp [secs]
theorem pubs_length (i : Nat) : (pubs i).length = i := by simp [pubs]
theorem secs_succ (i : Nat) : secs i ++ [2 * (i : Int) + 1] = secs (i + 1) := by simp [secs, List.range_succ]
theorem pubs_succ (i : Nat) : pubs i ++ [2 * (i : Int) + 2] = pubs (i + 1) := by simp [pubs, List.range_succ]
theorem nth_secs {i j : Nat} (h : j < i) : nth (secs i) j = 2 * (j : Int) + 1 := by
  have h1 := nth_lt (xs := secs i) (j := j) (by rw [secs_length]; exact h)
  simp [secs, h] at h1
  exact h1.symm
theorem nth_pubs {i j : Nat} (h : j < i) : nth (pubs i) j = 2 * (j : Int) + 2 := by
  have h1 := nth_lt (xs := pubs i) (j := j) (by rw [pubs_length]; exact h)
  simp [pubs, h] at h1
  exact h1.symm
def seens (k n : Nat) : List Int := (List.range n).map fun x : Nat => 2 * (k : Int) + 1 + x
theorem seens_length (k n : Nat) : (seens k n).length = n := by simp [seens]
theorem seens_succ (k n : Nat) : seens k n ++ [2 * (k : Int) + n + 1] = seens k (n + 1) := by simp [seens, List.range_succ]; omega
theorem nth_seens {k n j : Nat} (h : j < n) : nth (seens k n) j = 2 * (k : Int) + 1 + j := by
  have h1 := nth_lt (xs := seens k n) (j := j) (by rw [seens_length]; exact h)
  simp [seens, h] at h1
  exact h1.symm

theorem Apart.next {v v' x : Value} {n : Nat} (h : Apart v x) (e : v'.ownBlock = v.ownBlock ∨ v'.ownBlock = some n) (hx : ∀ q, x.ownBlock = some q → q < n) : Apart v' x := by
  intro q hq hxq
  rcases e with e | e
  · exact h q (e ▸ hq) hxq
  · rw [e] at hq
    cases hq
    have := hx _ hxq
    omega
theorem Apart.symm {v x : Value} (h : Apart v x) : Apart x v := fun q hq hv => h q hv hq

theorem elem_term : Try.prog.elem 69 = 23 := by kernel_rfl
theorem under_term : Try.prog.underlying 69 = some (.slice (Try.prog.elem 69)) := by rw [elem_term]; exact Try.underlying69
theorem size_elem (w : World) : (sizeOf 23).run Try.prog w = .ok 1 w := by
  obtain ⟨i, hi, hz0, hz1, hz2⟩ := info_parts info_term
  simp [sizeOf, typeInfo, hi, hz1]
theorem run_slice_one (w : World) (g n cp i : Nat) (hc : i + 1 ≤ cp) : (Instr.slice 69 (.slice (some ⟨g, 0, none⟩) n cp) (some (.int .i64 i)) (some (.int .i64 ((i : Int) + 1))) none).run Try.prog w = .ok (.slice (some ⟨g, i, none⟩) 1 (cp - i)) w := by
  have e1 : ((i : Int) + 1).toNat - i = 1 := by omega
  rw [run_slice_lh w 69 _ _ _ under_term .i64 .i64 i ((i : Int) + 1) (by omega) (by omega) (by omega), elem_term, size_elem]
  simp only [Result.andThen_ok, sliced, Int.toNat_natCast, e1, if_neg (show ¬ cp = i by omega), Option.map_some, addr_add, Nat.mul_one, Nat.zero_add]

set_option maxHeartbeats 3200000 in
set_option maxRecDepth 100000 in
theorem shares_walk (w : World) (a : Int) (a0 : 0 ≤ a) (a1 : a ≤ 255) : Calls Try.prog 8 #[.int .u8 a] w (AwakePost w) := by
  obtain ⟨k0, rfl⟩ := Int.eq_ofNat_of_zero_le a0
  go_enter Try.func8, Try.ntmps8
  go_wp2_with fail
  refine (new_any w).mono ?_
  rintro e w1 ⟨tb, rfl, ht1, hb1⟩
  have HT1 := Lib.hid ht1
  have HB1 := Lib.hid hb1
  clear ht1 hb1
  go_wp2_with fail
  generalize hk : (k0 : Int) % 6 + 2 = k' at *
  obtain ⟨k, rfl⟩ := Int.eq_ofNat_of_zero_le (show 0 ≤ k' by omega)
  have hk2 : 2 ≤ k := by omega
  have hk7 : k ≤ 7 := by omega
  clear hk
  go_loopw [5, 6, 7] (fun v5 v6 v7 wr => ∃ i : Nat, i ≤ k ∧ v7 = .int .i64 i ∧ OwnZ wr w.heap.size v5 (secs i) ∧ OwnZ wr w.heap.size v6 (pubs i) ∧ Apart v5 v6 ∧ IsTab w.heap.size wr tb (shT i) ∧ Below w.heap.size w wr) (fun _ _ v7 _ => k - (intOf v7).toNat)
  case atStart => exact ⟨0, Nat.zero_le _, rfl, OwnZ.nil _ _, OwnZ.nil _ _, fun q hq => by simp [Value.ownBlock] at hq, HT1.out, HB1.out⟩
  case round =>
    obtain ⟨i, hi, rfl, h5, h6, hap, ht, hb⟩ := hrel
    have H5 := Lib.hid h5
    have H6 := Lib.hid h6
    have HA := Lib.hid hap
    have HT := Lib.hid ht
    have HB := Lib.hid hb
    clear h5 h6 hap ht hb
    by_cases hlt : i < k
    · go_wp2_with fail
      refine (secret_any wr HT.out).mono ?_
      rintro e w2 p2
      obtain ⟨rfl, ht2, hf2⟩ := p2.intro (sh_secret i (by omega))
      have HT2 := Lib.hid ht2
      have H52 := Lib.hid (H5.out.frm hf2.tab_sp)
      have H62 := Lib.hid (H6.out.frm hf2.tab_sp)
      have HB2 := Lib.hid (HB.out.trans (hf2.below HB.out.size))
      have hs2 := HB2.out.size
      clear p2 ht2 hf2 HT H5 H6 HB
      go_wp2_with (at_builtin; refine wp_app_one (v := u5) rfl _ _ rfl (2 * (i : Int) + 1) w2.heap.size 0 1 rfl rfl (H52.out.below (below_new _)) ?_ ?_ ?_ ?_; (simp [go_sem]); (simp; omega); (rw [secs_length]; omega); intro v5' w3 hz3 hzf3 hfr3 hb3)
      have H6A := Lib.hid (H62.out.below (below_new (.cells #[.int .i64 (2 * (i : Int) + 1)] 23)))
      have HT3 := Lib.hid ((HT2.out.below (below_new (.cells #[.int .i64 (2 * (i : Int) + 1)] 23))).zfr hzf3 (H52.out.below (below_new _)).plain)
      have H63 := Lib.hid (H6A.out.zfr hzf3 HA.out)
      have HA3 := Lib.hid (HA.out.next hfr3 (fun q hq => (H6A.out.lt q hq).2))
      have HB3 := Lib.hid ((HB2.out.alloc hs2 _).trans hb3)
      have hs3 := HB3.out.size
      rw [secs_succ] at hz3
      obtain ⟨g, r, t, rfl, hg0, hg1, hg2, hg3⟩ := hz3.resolve_left (fun h => by have := congrArg List.length h.1; simp [secs] at this)
      rw [secs_length] at *
      have H53 : Hid (OwnZ w3 w.heap.size (.slice (some ⟨g, 0, none⟩) (i + 1) (i + 1 + r)) (secs (i + 1))) := .inr ⟨g, r, t, by rw [secs_length], hg0, hg1, hg2, by rw [secs_length]; exact hg3⟩
      have hcell : w3.cell? ⟨g, i, none⟩ = some (.int .i64 (2 * (i : Int) + 1)) := by
        rw [cell_of_row w3 g i _ _ _ hg1, ← secs_succ]
        simp [rowZ, secs_length]
      have hgl : g < w3.heap.size := lt_of_get hg1
      have hrow := Lib.hid hg1
      obtain ⟨cp, hcp⟩ : ∃ cp, cp = i + 1 + r := ⟨_, rfl⟩
      have hc1 : i + 1 ≤ cp := by omega
      have hc2 : ¬ cp = i := by omega
      have hc3 : (i : Int) + 1 ≤ (cp : Int) := by omega
      have hc4 : cp ≤ 9223372036854775807 := by omega
      rw [← hcp] at H53 HA3 ⊢
      clear hz3 hzf3 hfr3 hb3 hg1 H6A H62 H52 HT2 HB2 HA hs2 hcp hg3
      go_wp2_with fail
      rw [run_slice_one w3 g (i + 1) cp i hc1]
      go_wp2_with fail
      have hR : Rds 0 w3 .i64 (some ⟨g, i, none⟩) 1 (cp - i) [2 * (i : Int) + 1] := ⟨rfl, by omega, by omega, fun j hj => ⟨_, rfl, by
        have : j = 0 := by simpa using hj
        subst this
        rw [addr_add]; exact hcell⟩, fun _ a e => by cases e; exact ⟨hgl, .inr ⟨_, _, _, hrow.out, hg2⟩⟩⟩
      refine (make_any 7 (some ⟨g, i, none⟩) 1 (cp - i) [2 * (i : Int) + 1] w3 HT3.out hR (by simp [I64]; omega) (by omega)).mono ?_
      rintro e w4 p4
      obtain ⟨rfl, ht4, hf4⟩ := p4.intro (sh_public i (by omega) HT3.out.1)
      have HT4 := Lib.hid ht4
      have H54 := Lib.hid (H53.out.frm hf4.tab_sp)
      have H64 := Lib.hid (H63.out.frm hf4.tab_sp)
      have HB4 := Lib.hid (HB3.out.trans (hf4.below hs3))
      have hs4 := HB4.out.size
      clear p4 ht4 hf4 HT3 H53 H63 HB3 hR hcell hgl hrow hs3
      go_wp2_with (at_builtin; refine wp_app_one (v := u6) rfl _ _ rfl (2 * (i : Int) + 2) w4.heap.size 0 1 rfl rfl (H64.out.below (below_new _)) ?_ ?_ ?_ ?_; (simp [go_sem]); (simp; omega); (rw [pubs_length]; omega); intro v6' w5 hz5 hzf5 hfr5 hb5)
      have H5A := Lib.hid (H54.out.below (below_new (.cells #[.int .i64 (2 * (i : Int) + 2)] 23)))
      have HT5 := Lib.hid ((HT4.out.below (below_new (.cells #[.int .i64 (2 * (i : Int) + 2)] 23))).zfr hzf5 (H64.out.below (below_new _)).plain)
      have H55 := Lib.hid (H5A.out.zfr hzf5 HA3.out.symm)
      have HA5 := Lib.hid (HA3.out.symm.next hfr5 (fun q hq => (H5A.out.lt q hq).2)).symm
      have HB5 := Lib.hid ((HB4.out.alloc hs4 _).trans hb5)
      rw [pubs_succ] at hz5
      have HZ5 := Lib.hid hz5
      clear hz5 hzf5 hfr5 hb5 H5A H64 H54 HT4 HB4 HA3 hs4
      go_wp2_with fail
      go_roundw
      case rel => exact ⟨i + 1, by omega, by go_num, H55.out, HZ5.out, HA5, HT5.out, HB5.out⟩
      case measure => simp [intOf]; omega
    · obtain rfl : k = i := by omega
      obtain ⟨g5, c5, e5, -, hg5, hc5, hx5, -, -⟩ := H5.out.own.form (by rw [secs_length]; omega)
      obtain ⟨g6, c6, e6, -, hg6, hc6, hx6, -, -⟩ := H6.out.own.form (by rw [pubs_length]; omega)
      rw [secs_length] at *
      rw [pubs_length] at *
      subst e5 e6
      have HT0 : Hid (IsTab w.heap.size wr tb (prT k [])) := by
        have := HT.out
        show IsTab _ _ _ (shT k ++ [])
        rwa [List.append_nil]
      clear hx5 hx6 HT HA HT1 HB1
      go_wp2_with fail
      go_loopw [8, 9] (fun v8 v9 wz => ∃ (i : Nat) (P : List (Nat × Nat)), i ≤ k ∧ v9 = .int .i64 i ∧ OwnZ wz w.heap.size v8 (seens k P.length) ∧ Hid (∀ q ∈ P, q.1 < i) ∧ P.length ≤ 8 * i ∧ IsTab w.heap.size wz tb (prT k P) ∧ OwnZ wz w.heap.size (.slice (some ⟨g5, 0, none⟩) k c5) (secs k) ∧ OwnZ wz w.heap.size (.slice (some ⟨g6, 0, none⟩) k c6) (pubs k) ∧ Apart v8 (.slice (some ⟨g5, 0, none⟩) k c5) ∧ Apart v8 (.slice (some ⟨g6, 0, none⟩) k c6) ∧ Below w.heap.size w wz) (fun _ v9 _ => k - (intOf v9).toNat)
      case atStart => exact ⟨0, [], Nat.zero_le _, rfl, OwnZ.nil _ _, fun q hq => by simp at hq, by simp, HT0.out, H5.out, H6.out, fun q hq => by simp [Value.ownBlock] at hq, fun q hq => by simp [Value.ownBlock] at hq, HB.out⟩
      case round =>
        obtain ⟨i, P0, hi, rfl, h8, hP0, hPl, ht, h5, h6, ha5, ha6, hb⟩ := hrel
        have H8 := Lib.hid h8
        have HT2 := Lib.hid ht
        have H52 := Lib.hid h5
        have H62 := Lib.hid h6
        have HA5 := Lib.hid ha5
        have HA6 := Lib.hid ha6
        have HB2 := Lib.hid hb
        clear h8 ht h5 h6 ha5 ha6 hb
        by_cases hlt : i < k
        · go_wp2_with fail
          go_loopw [8, 10] (fun v8 v10 wz => ∃ (j : Nat) (P : List (Nat × Nat)), j ≤ i + 1 ∧ v10 = .int .i64 j ∧ OwnZ wz w.heap.size v8 (seens k P.length) ∧ Hid (∀ q ∈ P, q.1 < i ∨ q.1 = i ∧ q.2 < j) ∧ P.length ≤ 8 * i + j ∧ IsTab w.heap.size wz tb (prT k P) ∧ OwnZ wz w.heap.size (.slice (some ⟨g5, 0, none⟩) k c5) (secs k) ∧ OwnZ wz w.heap.size (.slice (some ⟨g6, 0, none⟩) k c6) (pubs k) ∧ Apart v8 (.slice (some ⟨g5, 0, none⟩) k c5) ∧ Apart v8 (.slice (some ⟨g6, 0, none⟩) k c6) ∧ Below w.heap.size w wz) (fun _ v10 _ => i + 1 - (intOf v10).toNat)
          case atStart => exact ⟨0, P0, Nat.zero_le _, rfl, H8.out, fun q hq => .inl (hP0.out q hq), by omega, HT2.out, H52.out, H62.out, HA5.out, HA6.out, HB2.out⟩
          case round =>
            obtain ⟨j, P, hj, rfl, h8, hP, hPl2, ht, h5, h6, ha5, ha6, hb⟩ := hrel
            have H8' := Lib.hid h8
            have HT3 := Lib.hid ht
            have H53 := Lib.hid h5
            have H63 := Lib.hid h6
            have HA53 := Lib.hid ha5
            have HA63 := Lib.hid ha6
            have HB3 := Lib.hid hb
            clear h8 ht h5 h6 ha5 ha6 hb H8 HT2 H52 H62 HA5 HA6 HB2
            by_cases hji : j ≤ i
            · obtain ⟨_, _, e5, -, -, -, hx5, -, -⟩ := H53.out.own.form (by rw [secs_length]; omega)
              rw [secs_length] at e5 hx5
              cases e5
              obtain ⟨_, _, e6, -, -, -, hx6, -, -⟩ := H63.out.own.form (by rw [pubs_length]; omega)
              rw [pubs_length] at e6 hx6
              cases e6
              have x5i := hx5 i hlt
              have x6j := hx6 j (by omega)
              have x5j := hx5 j (by omega)
              have x6i := hx6 i hlt
              rw [nth_secs (by omega)] at x5i x5j
              rw [nth_pubs (by omega)] at x6i x6j
              have hi0 : (0 : Int) ≤ (i : Int) := by omega
              have hj0 : (0 : Int) ≤ (j : Int) := by omega
              have hik : (i : Int) < (k : Int) := by omega
              have hjk : (j : Int) < (k : Int) := by omega
              clear hx5 hx6
              go_wp2_with fail
              have hq : Hid ((i, j) ∉ P) := fun h => by have := hP.out _ h; omega
              have hB3s := HB3.out.size
              go_region_law ((go_simp; go_at_call 41; refine (make_lit 8 [2 * (i : Int) + 1, 2 * (j : Int) + 2] wr.drew (HT3.out.below ((Below.refl _ _).drew)) rfl (by simp [I64]; omega) (by simp) _ rfl ?_ 2 rfl).mono ?_; decide; rintro e w5 p5; obtain ⟨rfl, ht5, hf5⟩ := p5.intro (sh_first hlt hji (by omega) (by omega) hq.out); have HT5 := Lib.hid ht5; have H55 := Lib.hid ((H53.out.below ((Below.refl _ _).drew)).frm hf5.tab_sp); have H65 := Lib.hid ((H63.out.below ((Below.refl _ _).drew)).frm hf5.tab_sp); have H85 := Lib.hid ((H8'.out.below ((Below.refl _ _).drew)).frm hf5.tab_sp); have HB5 := Lib.hid (HB3.out.drew.trans (hf5.below (by simpa using hB3s))); clear p5 ht5 hf5))
              all_goals
                clear HT3 H53 H63 H8' HB3 hq x5i x6j x5j x6i hB3s
                obtain ⟨_, _, e5, -, -, -, hx5, -, -⟩ := H55.out.own.form (by rw [secs_length]; omega)
                rw [secs_length] at e5 hx5
                cases e5
                obtain ⟨_, _, e6, -, -, -, hx6, -, -⟩ := H65.out.own.form (by rw [pubs_length]; omega)
                rw [pubs_length] at e6 hx6
                cases e6
                have x5j := hx5 j (by omega)
                have x6i := hx6 i hlt
                rw [nth_secs (by omega)] at x5j
                rw [nth_pubs (by omega)] at x6i
                clear hx5 hx6
                have hB5s := HB5.out.size
                go_wp2_with fail
                go_region_law ((go_simp; go_at_call 41; refine (make_lit 8 [2 * (j : Int) + 1, 2 * (i : Int) + 2] w5.drew (HT5.out.below ((Below.refl _ _).drew)) rfl (by simp [I64]; omega) (by simp) _ rfl ?_ 2 rfl).mono ?_; decide; rintro e w6 p6; obtain ⟨rfl, ht6, hf6⟩ := p6.intro (sh_second hlt hji HT5.out.1); have HT6 := Lib.hid ht6; have H56 := Lib.hid ((H55.out.below ((Below.refl _ _).drew)).frm hf6.tab_sp); have H66 := Lib.hid ((H65.out.below ((Below.refl _ _).drew)).frm hf6.tab_sp); have H86 := Lib.hid ((H85.out.below ((Below.refl _ _).drew)).frm hf6.tab_sp); have HB6 := Lib.hid (HB5.out.drew.trans (hf6.below (by simpa using hB5s))); clear p6 ht6 hf6))
                all_goals
                  clear HT5 H55 H65 H85 HB5 x5j x6i hB5s
                  have hab : ¬ 2 * (k : Int) + P.length + 1 = 0 := by omega
                  obtain ⟨A8, c8, rfl⟩ := H86.out.own.slice
                  rw [seens_length] at *
                  have HR8 : Hid (Rds 0 w6 .i64 A8 P.length c8 (seens k P.length)) := by
                    have := H86.out.own.rds (B' := 0)
                    exact this
                  go_wp2_with fail
                  go_loop [13] (fun v13 => ∃ m : Nat, m ≤ P.length ∧ v13 = .int .i64 m) (fun v13 => P.length - (intOf v13).toNat)
                  case atStart => exact ⟨0, Nat.zero_le _, rfl⟩
                  case round =>
                    obtain ⟨m, hm, rfl⟩ := hrel
                    by_cases hmN : m < P.length
                    · obtain ⟨b, o, rfl, hcx⟩ := RdI.at_ HR8.out.cell (by rw [seens_length]; omega)
                      have g1 := hcx m (by rw [seens_length]; exact hmN)
                      rw [nth_seens hmN] at g1
                      clear hcx
                      have hne0 : ¬ (2 * (k : Int) + 1 + m = 2 * (k : Int) + P.length + 1) := by omega
                      have hne : (2 * (k : Int) + 1 + m == 2 * (k : Int) + P.length + 1) = false := beq_eq_false_iff_ne.2 hne0
                      have hmi : (m : Int) < (P.length : Int) := by omega
                      go_wp2_with fail
                      go_round
                      case rel => exact ⟨m + 1, by omega, by go_num⟩
                      case measure => simp [intOf]; omega
                    · have hmE : m = P.length := by omega
                      subst hmE
                      have HB6s := HB6.out.size
                      have H8A := Lib.hid (H86.out.below (below_new (.cells #[.int .i64 (2 * (k : Int) + P.length + 1)] 23)))
                      have H5A := Lib.hid (H56.out.below (below_new (.cells #[.int .i64 (2 * (k : Int) + P.length + 1)] 23)))
                      have H6A := Lib.hid (H66.out.below (below_new (.cells #[.int .i64 (2 * (k : Int) + P.length + 1)] 23)))
                      go_wp2_with (at_builtin; refine wp_app_one (v := .slice A8 P.length c8) rfl _ _ rfl (2 * (k : Int) + P.length + 1) w6.heap.size 0 1 rfl rfl H8A.out ?_ ?_ ?_ ?_; (simp [go_sem]); (simp; omega); (rw [seens_length]; omega); intro v8' w7 hz7 hzf7 hfr7 hb7)
                      have HT7 := Lib.hid ((HT6.out.below (below_new (.cells #[.int .i64 (2 * (k : Int) + P.length + 1)] 23))).zfr hzf7 H8A.out.plain)
                      have H57 := Lib.hid (H5A.out.zfr hzf7 HA53.out)
                      have H67 := Lib.hid (H6A.out.zfr hzf7 HA63.out)
                      have HA57 := Lib.hid (HA53.out.next hfr7 (fun q hq => (H5A.out.lt q hq).2))
                      have HA67 := Lib.hid (HA63.out.next hfr7 (fun q hq => (H6A.out.lt q hq).2))
                      have HB7 := Lib.hid ((HB6.out.alloc HB6s _).trans hb7)
                      rw [seens_succ] at hz7
                      have HZ7 := Lib.hid hz7
                      clear hz7 hzf7 hfr7 hb7 H8A H5A H6A H56 H66 H86 HT6 HB6
                      go_wp2_with fail
                      go_roundw
                      case rel => exact ⟨j + 1, P ++ [(i, j)], by omega, by go_num, by simpa using HZ7.out, fun q hq => by
                        rcases List.mem_append.1 hq with h | h
                        · have := hP.out q h; omega
                        · have : q = (i, j) := by simpa using h
                          subst this; exact .inr ⟨rfl, by simp⟩, by simp; omega, HT7.out, H57.out, H67.out, HA57.out, HA67.out, HB7.out⟩
                      case measure => simp [intOf]; omega
            · obtain rfl : j = i + 1 := by omega
              go_wp2_with fail
              go_roundw
              case rel => exact ⟨i + 1, P, by omega, by go_num, H8'.out, fun q hq => by have := hP.out q hq; omega, by omega, HT3.out, H53.out, H63.out, HA53.out, HA63.out, HB3.out⟩
              case measure => simp [intOf]; omega
        · obtain rfl : k = i := by omega
          go_wp2_with fail
          refine (awake02_any _).mono ?_
          rintro e w9 ⟨rfl, hb9⟩
          have HB9 := Lib.hid (below_next HB2.out HB2.out.size hb9)
          clear hb9
          go_wp2_with fail
          go_ret
          exact ⟨rfl, HB9.out⟩
theorem shares_row (w : World) (a : Int) (wa : (Lit.int .u8 a).wf = true) : Calls Try.prog 8 #[.int .u8 a] w fun e w' => e = .returned (.bool true) ∧ Below w.heap.size w w' := by
  have b := bounds_u8 wa
  exact shares_walk w a b.1 b.2
end Go.Proofs.Ytoelbhmgmlnieaa
