/- What Clone, Look, kinds, Contains and formed do. No condition. -/
import Derived.Test.YtmaedahleenlgaaTerm
set_option linter.unusedVariables false
set_option linter.unusedSimpArgs false
namespace Go.Proofs.Ytmaedahleenlgaa
open Go Go.RowKit Go.WideMaps

def ClonePost (xs : List Int) (w : World) (e : Ending) (w' : World) : Prop := ∃ v, e = .returned v ∧ OwnI w' w.heap.size .i64 v xs ∧ Below w.heap.size w w'
set_option maxHeartbeats 800000 in
set_option maxRecDepth 100000 in
theorem clone_any {B : Nat} (A : Option Addr) (n c : Nat) (xs : List Int) (w : World) (hr : Rds B w .i64 A n c xs) (hn : n ≤ 1000000) : Calls Try.prog 36 #[.slice A n c] w (ClonePost xs w) := by
  have hl := Lib.hid hr.len
  cases A with
  | none =>
    have h0 : n = 0 := by
      rcases Nat.eq_zero_or_pos n with h | h
      · exact h
      · obtain ⟨ad, e, _⟩ := hr.cell 0 (by have := hr.len; omega)
        cases e
    subst h0
    have hx : xs = [] := List.eq_nil_of_length_eq_zero hl.out
    subst hx
    have he := Lib.run_eql_slice_nil (P := Try.prog) w 38 37 none 0 c 0 0 Try.underlying38
    clear hr
    go_enter Try.func36, Try.ntmps36
    go_wp2_with fail
    go_ret
    exact ⟨_, rfl, OwnI.nil _ _ _, Below.refl _ _⟩
  | some a =>
    have he := Lib.run_eql_slice_nil (P := Try.prog) w 38 37 (some a) n c 0 0 Try.underlying38
    have HR := Lib.hid hr
    clear hr
    go_enter Try.func36, Try.ntmps36
    go_wp2_with (at_builtin; refine wp_app_term (xs := []) (ys := xs) rfl _ _ rfl rfl rfl (OwnI.empty (B := w.heap.size) (Nat.le_refl _) sp_term) ?_ hl.out ?_ ?_ ?_)
    · exact (HR.out.below (below_new _)).cell
    · simp
    · simp; omega
    intro v' w3 hv3 hg3 hb3
    try simp only [List.nil_append] at hv3
    have HV := Lib.hid hv3
    clear hv3 hg3
    go_wp2_with fail
    go_ret
    exact ⟨_, rfl, HV.out, ((Below.refl _ _).alloc (Nat.le_refl _) _).trans hb3⟩

theorem frozen_later {w wx : World} {a : Addr} (hb : Below w.heap.size w wx) (hl : a.block < w.heap.size) (h : w.frozen? a = false) : wx.frozen? a = false := (hb.frozen hl).trans h
/-- The term of a number; without one the empty one. -/
def nodeT (T : List Nd) (h : Int) : Nd := (getT T h).getD ⟨0, ByteArray.empty, []⟩
def LookPost (T : List Nd) (h : Int) (w : World) (e : Ending) (w' : World) : Prop :=
  ∃ A c, e = .returned (.tuple #[.agg #[.int .i64 (nodeT T h).kind, .string (nodeT T h).text, .slice A (nodeT T h).parts.length c], .bool (getT T h).isSome]) ∧ OwnI w' w.heap.size .i64 (.slice A (nodeT T h).parts.length c) (nodeT T h).parts ∧ Below w.heap.size w w'
theorem look_none {T : List Nd} {h : Int} (e : getT T h = none) {w w' : World} (hb : Below w.heap.size w w') : LookPost T h w (.returned (.tuple #[.agg #[.int .i64 0, .string ByteArray.empty, .slice none 0 0], .bool false])) w' := by
  unfold LookPost nodeT
  rw [e]
  exact ⟨none, 0, rfl, OwnI.nil _ _ _, hb⟩
theorem look_some {T : List Nd} {h : Int} {n : Nd} (e : getT T h = some n) {w w' : World} {A : Option Addr} {c : Nat} (ho : OwnI w' w.heap.size .i64 (.slice A n.parts.length c) n.parts) (hb : Below w.heap.size w w') :
    LookPost T h w (.returned (.tuple #[.agg #[.int .i64 n.kind, .string n.text, .slice A n.parts.length c], .bool true])) w' := by
  unfold LookPost nodeT
  rw [e]
  exact ⟨A, c, rfl, ho, hb⟩

set_option maxHeartbeats 1600000 in
set_option maxRecDepth 100000 in
theorem look_any {B tb : Nat} {T : List Nd} (h : Int) (w : World) (ht : IsTab B w tb T) (h0 : -9223372036854775808 ≤ h) (h1 : h ≤ 9223372036854775807) : Calls Try.prog 21 #[.pointer (some ⟨tb, 0, none⟩), .int .i64 h] w (LookPost T h w) := by
  obtain ⟨hw, hB, v, mb, es, clock, cs, g1, hmb, g3, hm, hown, hcs, -⟩ := ht
  obtain ⟨A, cA, rfl⟩ := owned_slice hown
  have c0 : w.cell? ⟨tb, 0, none⟩ = some (.slice A T.length cA) := by rw [cell_of_row w tb 0 _ _ _ g1]; rfl
  have htb : tb < w.heap.size := lt_of_get g1
  have hTl := hw.len
  have Hw := Lib.hid hw
  have Hown := Lib.hid hown
  have Hcs := Lib.hid hcs
  clear hw g1 g3 hm hown hcs
  by_cases hl : h < 1
  · have HN := Lib.hid (getT_none (T := T) (h := h) (by omega))
    go_enter Try.func21, Try.ntmps21
    go_wp2_with fail
    go_returns
    exact look_none HN.out (below_new _)
  by_cases hh : (T.length : Int) < h
  · have HN := Lib.hid (getT_none (T := T) (h := h) (by omega))
    go_enter Try.func21, Try.ntmps21
    go_wp2_with fail
    go_returns
    exact look_none HN.out (below_new _)
  obtain ⟨i, rfl⟩ : ∃ i : Nat, h = (i : Int) + 1 := ⟨(h - 1).toNat, by omega⟩
  have hi : i < T.length := by omega
  obtain ⟨n, hn⟩ : ∃ n, T[i]? = some n := ⟨_, List.getElem?_eq_getElem hi⟩
  have HG := Lib.hid ((getT_nat i).trans hn)
  have hgood := Lib.hid (Hw.out.good i n hn)
  obtain ⟨g, cap, e1, hfrm⟩ := Hown.out.form (by omega)
  cases e1
  obtain ⟨AP, cP, hp1, hp2⟩ := Hcs.out.parts i n hn
  have k0 : w.cell? ⟨g, i * 3, none⟩ = some (.int .i64 n.kind) := by rw [Hown.out.cellAt _ (by omega)]; exact Hcs.out.kind i n hn
  have k1 : w.cell? ⟨g, i * 3 + 1, none⟩ = some (.string n.text) := by rw [Hown.out.cellAt _ (by omega)]; exact Hcs.out.text i n hn
  have k2 : w.cell? ⟨g, i * 3 + 2, none⟩ = some (.slice AP n.parts.length cP) := by rw [Hown.out.cellAt _ (by omega)]; exact hp1
  have HP := Lib.hid hp2
  have hgl := hfrm.2
  have hi0 : (0 : Int) ≤ (i : Int) := by omega
  have hiT : (i : Int) < (T.length : Int) := by omega
  clear hp1 hp2 hn hfrm
  go_enter Try.func21, Try.ntmps21
  go_wp2_with fail
  have hmany := hgood.out.many
  go_region_law ((go_simp; go_at_call 36; refine (clone_any _ _ _ _ _ ((HP.out.below ((((Below.refl _ _).alloc (Nat.le_refl _) _).alloc (by simp) _)).drew)) (by omega)).mono ?_; rintro e w1 ⟨v, rfl, hv, hb1⟩; obtain ⟨A1, c1, rfl⟩ := hv.slice; have HV := Lib.hid hv; have HB1 := Lib.hid hb1; have q0 := cell_later hb1 (a := ⟨w.heap.size + 1, 0, none⟩) (v := .int .i64 n.kind) (by simp [go_sem]); have q1 := cell_later hb1 (a := ⟨w.heap.size + 1, 1, none⟩) (v := .string n.text) (by simp [go_sem]); have r0 := cell_later hb1 (a := ⟨w.heap.size, 0, none⟩) (v := .int .i64 0) (by simp [go_sem]); have r1 := cell_later hb1 (a := ⟨w.heap.size, 1, none⟩) (v := .string ⟨#[]⟩) (by simp [go_sem]); have r2 := cell_later hb1 (a := ⟨w.heap.size, 2, none⟩) (v := .slice none 0 0) (by simp [go_sem]); have z0 := frozen_later hb1 (a := ⟨w.heap.size, 0, none⟩) (by simp; omega) (by simp [go_sem]); have z1 := frozen_later hb1 (a := ⟨w.heap.size, 1, none⟩) (by simp; omega) (by simp [go_sem]); have z2 := frozen_later hb1 (a := ⟨w.heap.size, 2, none⟩) (by simp; omega) (by simp [go_sem]); clear hv hb1))
  all_goals
    have s0 := World.cell?_setCell_same w1 ⟨w.heap.size, 0, none⟩ (.int .i64 n.kind) r0
    have s1 := World.cell?_setCell_same (w1.setCell ⟨w.heap.size, 0, none⟩ (.int .i64 n.kind)) ⟨w.heap.size, 1, none⟩ (.string n.text) ((World.cell?_setCell_other _ _ _ _ (by simp)).trans r1)
    have s2 := World.cell?_setCell_same ((w1.setCell ⟨w.heap.size, 0, none⟩ (.int .i64 n.kind)).setCell ⟨w.heap.size, 1, none⟩ (.string n.text)) ⟨w.heap.size, 2, none⟩ (.slice A1 n.parts.length c1) ((World.cell?_setCell_other _ _ _ _ (by simp)).trans ((World.cell?_setCell_other _ _ _ _ (by simp)).trans r2))
    clear r0 r1 r2 q0 q1 z0 z1 z2
    go_wp2_with fail
    (try simp only [Exit.inBlock, Exit.then])
    refine bodyPost_ret (v := .tuple #[.agg #[.int .i64 n.kind, .string n.text, .slice A1 n.parts.length c1], .bool true]) (by simp [results, Try.results21, go_sem, s0, s1, s2]) rfl ?_
    refine look_some HG.out ?_ ?_
    · refine OwnI.mono (B := w.heap.size + 2) ?_ (by omega)
      exact ((((HV.out.mono (by simp)).setBelow (by simp) _).setBelow (by simp) _).setBelow (by simp) _)
    · exact ((((below_next ((((Below.refl _ _).alloc (Nat.le_refl _) _).alloc (by simp) _).drew) (by simp; omega) HB1.out).setCell (Nat.le_refl _) _).setCell (Nat.le_refl _) _).setCell (Nat.le_refl _) _)
end Go.Proofs.Ytmaedahleenlgaa
