/- What Make does. No condition. -/
import Derived.Test.YtomopjpfdmpgpaaFormed
import Derived.Test.YtomopjpfdmpgpaaSort
set_option linter.unusedVariables false
set_option linter.unusedSimpArgs false
namespace Go.Proofs.Ytomopjpfdmpgpaa
open Go Go.RowKit Go.WideMaps

theorem nth_map {f : Int → Int} {xs : List Int} {j : Nat} (h : j < xs.length) : nth (xs.map f) j = f (nth xs j) := by
  have h1 := nth_lt (xs := xs.map f) (j := j) (by simpa using h)
  rw [List.getElem?_map, nth_lt h] at h1
  simpa using h1.symm
theorem make_no1 {T : List Nd} {kind : Int} {parts : List Int} (h : (0 : Int) ∈ parts.map (kindT T)) : makeT T kind parts = (T, 0) := if_pos (.inl h)
theorem make_no2 {T : List Nd} {kind : Int} {parts : List Int} (h : formedT kind (parts.map (kindT T)) = false) : makeT T kind parts = (T, 0) := if_pos (.inr h)
theorem make_yes {T : List Nd} {kind : Int} {parts : List Int} (h : (0 : Int) ∉ parts.map (kindT T)) (h' : formedT kind (parts.map (kindT T)) = true) : makeT T kind parts = addT T ⟨kind, ByteArray.empty, ownT T kind parts⟩ := if_neg (by simp [h']; simpa using h)
theorem formed_kind {k : Int} {l : List Int} (h : formedT k l = true) : 3 ≤ k ∧ k ≤ 10 := by
  refine Classical.byContradiction fun hk => ?_
  unfold formedT at h
  rw [if_neg (by omega), if_neg (by omega), if_neg (by omega), if_neg (by omega), if_neg (by omega), if_neg (by omega), if_neg (by omega)] at h
  cases h
theorem formed8_len {l : List Int} (h : formedT 8 l = true) : l.length = 2 ∧ nth l 0 = 2 ∧ nth l 1 = 7 := by
  simpa [formedT] using h
theorem parts_range {T : List Nd} {parts : List Int} (h : (0 : Int) ∉ parts.map (kindT T)) : ∀ p ∈ parts, 1 ≤ p ∧ p ≤ T.length := fun p hp =>
  kindT_range fun e => h (List.mem_map.2 ⟨p, hp, e⟩)
/-- What stands behind a public one. -/
theorem public_of {T : List Nd} (hw : WfT T) {y : Int} (h : kindT T y = 7) : ∃ p, getT T y = some p ∧ p.parts.length = 1 ∧ kindT T (nth p.parts 0) = 2 ∧ 1 ≤ nth p.parts 0 ∧ nth p.parts 0 ≤ T.length := by
  obtain ⟨h0, h1⟩ := kindT_range (T := T) (h := y) (by omega)
  obtain ⟨p, hp⟩ := getT_some h0 h1
  have hg := hw.get hp
  rw [kindT_get hp] at h
  obtain ⟨k1, k2⟩ := hg.k7 h
  have := kindT_range (T := T) (h := nth p.parts 0) (by omega)
  exact ⟨p, hp, k1, k2, this.1, this.2⟩
theorem sort2_eq (a b : Int) : sort2 a b = [a, b] ∨ sort2 a b = [b, a] := by unfold sort2; split <;> simp
theorem good_make {T : List Nd} (hw : WfT T) {kind : Int} {parts : List Int} (h : (0 : Int) ∉ parts.map (kindT T)) (h' : formedT kind (parts.map (kindT T)) = true) : GoodN T.length T ⟨kind, ByteArray.empty, ownT T kind parts⟩ := by
  have hr := parts_range h
  have hk := formed_kind h'
  by_cases h8 : kind = 8
  · subst h8
    obtain ⟨l2, n0, n1⟩ := formed8_len h'
    have l2' : parts.length = 2 := by simpa using l2
    rw [nth_map (by omega)] at n0 n1
    obtain ⟨p, hp, p1, p2, p3, p4⟩ := public_of hw n1
    have ho : ownT T 8 parts = sort2 (nth parts 0) (nth p.parts 0) := by unfold ownT; rw [if_pos rfl, hp]
    have r0 := hr (nth parts 0) (nth_mem (by omega))
    rw [ho]
    refine ⟨by simp, (by show ByteArray.empty.size ≤ 2048; decide), ?_, ?_, fun k => by simp at k, fun k => by simp at k, fun _ => rfl, fun k => by simp at k, fun k => by simp at k, fun k => by simp at k, fun k => by simp at k, fun _ => ?_, fun k => by simp at k⟩
    · rcases sort2_eq (nth parts 0) (nth p.parts 0) with e | e <;> simp [e]
    · intro q hq
      rcases sort2_eq (nth parts 0) (nth p.parts 0) with e | e <;> (simp only [e, List.mem_cons, List.not_mem_nil, or_false] at hq; rcases hq with rfl | rfl <;> omega)
    · simp only
      unfold sort2
      split
      · exact ⟨rfl, p2, n0, by simp [nth] at *; omega⟩
      · exact ⟨rfl, n0, p2, by simp [nth] at *; omega⟩
  · have ho : ownT T kind parts = parts := if_neg h8
    rw [ho]
    have l : (parts.map (kindT T)).length = parts.length := by simp
    unfold formedT at h'
    rw [l] at h'
    refine ⟨⟨by simp; omega, by simp; omega⟩, (by show ByteArray.empty.size ≤ 2048; decide), ?_, hr, fun k => by simp at k; omega, fun k => by simp at k; omega, fun _ => rfl, fun k => ?_, fun k => ?_, fun k => ?_, fun k => ?_, fun k => absurd k h8, fun k => ?_⟩
    · show parts.length ≤ 16
      split at h'
      · simpa using h'
      · split at h'
        · simp at h'; omega
        · split at h'
          · simp at h'; omega
          · split at h'
            · simp at h'; omega
            · split at h'
              · simp at h'; omega
              · split at h'
                · simp at h'; omega
                · cases h'
    · simp only at k; subst k; simpa using h'
    · simp only at k; subst k; simpa using h'
    · simp only at k
      have h'' : parts.length = 3 ∧ nth (parts.map (kindT T)) 1 = 1 := by rcases k with rfl | rfl <;> simpa using h'
      exact ⟨h''.1, (nth_map (f := kindT T) (xs := parts) (by omega)).symm.trans h''.2⟩
    · simp only at k; subst k
      have h'' : parts.length = 1 ∧ nth (parts.map (kindT T)) 0 = 2 := by simpa using h'
      exact ⟨h''.1, (nth_map (f := kindT T) (xs := parts) (by omega)).symm.trans h''.2⟩
    · simp only at k; subst k
      have h'' : parts.length = 2 ∧ nth (parts.map (kindT T)) 0 = 2 := by simpa using h'
      exact ⟨h''.1, (nth_map (f := kindT T) (xs := parts) (by omega)).symm.trans h''.2⟩

theorem make_done {B tb : Nat} {T : List Nd} {kind : Int} {parts own : List Int} {w w2 : World} {e : Ending} {w' : World} (h : (0 : Int) ∉ parts.map (kindT T)) (h' : formedT kind (parts.map (kindT T)) = true) (ho : ownT T kind parts = own) (hf : Below w.heap.size w w2) (ha : AddPost B tb T ⟨kind, ByteArray.empty, own⟩ w2 e w') : TabPost B tb w (makeT T kind parts) e w' := by
  subst ho
  unfold TabPost
  rw [make_yes h h']
  exact ⟨ha.1, ha.2.1, (Frm.of_below hf).trans ha.2.2⟩
theorem own_len {T : List Nd} {kind : Int} {parts : List Int} (h8 : kind ≠ 8) : ownT T kind parts = parts := if_neg h8

set_option maxHeartbeats 3200000 in
set_option maxRecDepth 100000 in
theorem make_any {B B' tb : Nat} {T : List Nd} (kind : Int) (A : Option Addr) (n c : Nat) (parts : List Int) (w : World) (ht : IsTab B w tb T) (hr : Rds B' w .i64 A n c parts) (hx : I64 parts) (hn : n ≤ 1000000) :
    Calls Try.prog 21 #[.pointer (some ⟨tb, 0, none⟩), .int .i64 kind, .slice A n c] w (TabPost B tb w (makeT T kind parts)) := by
  have HT := Lib.hid ht; clear ht
  have HR := Lib.hid hr; clear hr
  have HX := Lib.hid hx; clear hx
  have hl := Lib.hid HR.out.len
  go_enter Try.func21, Try.ntmps21
  go_wp2_with fail
  refine (kinds_any A n c parts w HT.out HR.out HX.out hn).mono ?_
  rintro e w1 ⟨v, rfl, ho1, hb1⟩
  obtain ⟨A1, c1, rfl⟩ := ho1.slice
  have HO1 := Lib.hid ho1
  have HB1 := Lib.hid hb1
  clear ho1 hb1
  have hkl : (parts.map (kindT T)).length = n := by rw [List.length_map]; exact hl.out
  rw [hkl]
  have HKL := Lib.hid hkl
  clear hkl
  have R1 : Hid (Rds w1.heap.size w1 .i64 A1 n c1 (parts.map (kindT T))) := by
    have := HO1.out.rds (B' := w1.heap.size)
    rw [HKL.out] at this
    exact this
  go_wp2_with fail
  refine (contains_zero A1 n c1 _ w1 R1.out).mono ?_
  rintro e w2 ⟨rfl, rfl⟩
  by_cases hz : (0 : Int) ∈ parts.map (kindT T)
  · rw [decide_eq_true hz]
    have HZ := Lib.hid hz
    clear hz
    go_wp2_with fail
    go_ret
    unfold TabPost
    rw [make_no1 HZ.out]
    exact ⟨rfl, HT.out.below HB1.out, .of_below HB1.out⟩
  rw [decide_eq_false hz]
  have HZ := Lib.hid hz
  clear hz
  go_wp2_with fail
  refine (formed_any kind A1 n c1 _ w1 R1.out).mono ?_
  rintro e w2 ⟨rfl, rfl⟩
  cases hq : formedT kind (parts.map (kindT T)) with
  | false =>
    have HQ := Lib.hid hq
    clear hq
    go_wp2_with fail
    go_ret
    unfold TabPost
    rw [make_no2 HQ.out]
    exact ⟨rfl, HT.out.below HB1.out, .of_below HB1.out⟩
  | true =>
    have HQ := Lib.hid hq
    clear hq
    go_wp2_with fail
    refine (clone_any A n c parts w1 (HR.out.below HB1.out) hn).mono ?_
    rintro e w2 ⟨v, rfl, ho2, hb2⟩
    obtain ⟨A2, c2, rfl⟩ := ho2.slice
    have HO2 := Lib.hid ho2
    have HB2 := Lib.hid (below_step HB1.out hb2)
    have HB2' := Lib.hid hb2
    clear ho2 hb2
    rw [hl.out]
    by_cases h8 : kind = 8
    · subst h8
      obtain ⟨l2, k0, k1⟩ := formed8_len HQ.out
      have hn2 : parts.length = 2 := by simpa using l2
      obtain rfl : n = 2 := by have := hl.out; omega
      rw [nth_map (by omega)] at k0 k1
      obtain ⟨p, hp, p1, p2, p3, p4⟩ := public_of HT.out.1 k1
      obtain ⟨i, hi⟩ : ∃ i : Nat, nth parts 1 = (i : Int) + 1 := by
        have := getT_range hp
        exact ⟨(nth parts 1 - 1).toNat, by omega⟩
      have hiT : i < T.length := by have := getT_range hp; omega
      have hpi : T[i]? = some p := by rw [hi, getT_nat] at hp; exact hp
      have hown : Hid (ownT T 8 parts = sort2 (nth parts 0) (nth p.parts 0)) := by show _ = _; unfold ownT; rw [if_pos rfl, hp]
      have hpar : parts = [nth parts 0, (i : Int) + 1] := by
        rw [← hi]
        match parts, hn2 with
        | [a, b], _ => rfl
      obtain ⟨hw, hB, v, mb, es, clock, cs, g1, hmb, g3, hm, hon, hcs, -⟩ := HT.out.below HB2.out
      obtain ⟨AT, cAT, rfl⟩ := owned_slice hon
      have c0 : w2.cell? ⟨tb, 0, none⟩ = some (.slice AT T.length cAT) := by rw [cell_of_row w2 tb 0 _ _ _ g1]; rfl
      obtain ⟨gT, capT, e1, hfrm⟩ := hon.form (by omega)
      cases e1
      obtain ⟨AP, cP, hp1, hp2⟩ := hcs.parts i p hpi
      have k2 : w2.cell? ⟨gT, i * 3 + 2, none⟩ = some (.slice AP p.parts.length cP) := by rw [hon.cellAt _ (by omega)]; exact hp1
      rw [p1] at k2
      obtain ⟨bP, oP, rfl, hcP⟩ := RdI.at_ hp2.cell (by omega)
      have k3 := hcP 0 (by omega)
      obtain ⟨bA, oA, rfl, hcA⟩ := RdI.at_ (HR.out.below HB2.out).cell (by omega)
      have k4 := hcA 1 (by omega)
      rw [hi] at k4
      obtain ⟨g, cap, e2, hgB, hgl, hcap, hgc, hgf, hgs⟩ := HO2.out.form (by omega)
      rw [hl.out] at e2
      cases e2
      have q0 := hgc 0 (by omega)
      have q1 := hgc 1 (by omega)
      have z1 := hgf 1
      have HS := Lib.hid (hgs 1 (nth p.parts 0) (by omega))
      have hl2 := Lib.hid hpar
      have hTl := hw.len
      rw [hi] at q1
      clear hw g1 g3 hm hon hcs hfrm hp1 hp2 hcP hcA hgc hgf hgs k0 k1 hp hpi hpar p1 p2 p3 p4 l2 hn2 hmb hB
      have hi0 : (0 : Int) ≤ (i : Int) := by omega
      have hiT' : (i : Int) < (T.length : Int) := by omega
      generalize nth p.parts 0 = z at *
      go_wp2_with fail
      refine wp_still_tail 15 (by kernel_rfl) (by kernel_rfl) ?_
      intro w3 hw3
      have c0' : w3.cell? ⟨tb, 0, none⟩ = some (.slice (some ⟨gT, 0, none⟩) T.length cAT) := by rw [hw3]; exact c0
      have k2' : w3.cell? ⟨gT, i * 3 + 2, none⟩ = some (.slice (some ⟨bP, oP, none⟩) 1 cP) := by rw [hw3]; exact k2
      have k3' : w3.cell? ⟨bP, oP, none⟩ = some (.int .i64 z) := by rw [hw3]; exact k3
      have k4' : w3.cell? ⟨bA, oA + 1, none⟩ = some (.int .i64 ((i : Int) + 1)) := by rw [hw3]; exact k4
      have q1' : w3.cell? ⟨g, 1, none⟩ = some (.int .i64 ((i : Int) + 1)) := by rw [hw3]; exact q1
      have z1' : w3.frozen? ⟨g, 1, none⟩ = false := by rw [hw3]; exact z1
      have HS' : Hid (OwnI (w3.setCell ⟨g, 1, none⟩ (.int .i64 z)) w1.heap.size .i64 (.slice (some ⟨g, 0, none⟩) 2 c2) [nth parts 0, z]) := by
        have := HS.out
        rw [hl.out, hl2.out] at this
        rw [hw3]
        exact this
      have HB3 : Hid (Below w.heap.size w (w3.setCell ⟨g, 1, none⟩ (.int .i64 z))) := by
        rw [hw3]
        exact HB2.out.drew.setCell (by have := HB1.out.size; simp; omega) _
      clear c0 k2 k3 k4 q1 z1 q0 HS hw3
      have hwi : IntKind.i64.wrap (i : Int) = i := IntWalk.i64_in _ (by omega)
      simp only [List.take_succ_cons, List.take_zero, List.drop_succ_cons, List.drop_zero]
      repeat still_step
      refine wpStill_nil ?_
      go_wp2_with fail
      obtain ⟨w4, hw4⟩ : ∃ w4, w4 = w3.setCell ⟨g, 1, none⟩ (.int .i64 z) := ⟨_, rfl⟩
      rw [← hw4] at HS' HB3 ⊢
      clear c0' k2' k3' k4' q1' z1' hw4
      refine (sort_two g c2 _ _ w4 HS'.out).mono ?_
      rintro e w5 ⟨rfl, ho5, hb5⟩
      have HO5 := Lib.hid ho5
      have HB5 := Lib.hid (HB3.out.trans (hb5.mono HB1.out.size))
      have hs5 : w1.heap.size ≤ w5.heap.size := by have := hb5.size; have := HO5.out.lt g rfl; omega
      clear ho5 hb5
      go_wp2_with fail
      refine (add_any 8 ByteArray.empty (some ⟨g, 0, none⟩) 2 c2 (sort2 (nth parts 0) z) w5 (HT.out.below HB5.out) (by rw [← hown.out]; exact good_make HT.out.1 HZ.out HQ.out) HO5.out.rds).mono ?_
      rintro e w6 h3
      have h3' := Lib.hid h3
      obtain ⟨rfl, -, -⟩ := h3
      go_wp2_with fail
      go_ret
      exact make_done HZ.out HQ.out hown.out HB5.out h3'.out
    · have hk8 : (kind == 8) = false := by simp [h8]
      have HE := Lib.hid (own_len (T := T) (parts := parts) h8)
      clear h8
      go_wp2_with fail
      refine (add_any kind ByteArray.empty A2 n c2 parts w2 (HT.out.below HB2.out) (by rw [← HE.out]; exact good_make HT.out.1 HZ.out HQ.out) (by rw [← hl.out]; exact HO2.out.rds)).mono ?_
      rintro e w3 h3
      have h3' := Lib.hid h3
      obtain ⟨rfl, -, -⟩ := h3
      go_wp2_with fail
      go_ret
      exact make_done HZ.out HQ.out HE.out HB2.out h3'.out
end Go.Proofs.Ytomopjpfdmpgpaa
