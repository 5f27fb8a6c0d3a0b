/- The reference's table (package shibbolethref02): same, Kind. No condition. -/
import Derived.Test.YtmaedahleenlgaaDerives
set_option linter.unusedVariables false
set_option linter.unusedSimpArgs false
namespace Go.Proofs.Ytmaedahleenlgaa
open Go Go.RowKit Go.WideMaps

def refN (k : Int) (s : ByteArray) (A : Option Addr) (n c : Nat) : Value := .agg #[.int .i64 k, .string s, .slice A n c]
def SameN (m n : Nd) : Prop := m.kind ≠ 2 ∧ m = n
instance (m n : Nd) : Decidable (SameN m n) := inferInstanceAs (Decidable (_ ∧ _))
def SameNPost (m n : Nd) (w : World) (e : Ending) (w' : World) : Prop := e = .returned (.bool (decide (SameN m n))) ∧ Below w.heap.size w w'
theorem sameN_no {m n : Nd} {w w' : World} (h : ¬ SameN m n) (hb : Below w.heap.size w w') : SameNPost m n w (.returned (.bool false)) w' := ⟨by rw [decide_eq_false h], hb⟩
theorem sameN_yes {m n : Nd} {w w' : World} (h : SameN m n) (hb : Below w.heap.size w w') : SameNPost m n w (.returned (.bool true)) w' := ⟨by rw [decide_eq_true h], hb⟩
theorem below_two {w : World} (o o' : Obj) : Below w.heap.size w ((w.alloc o).alloc o') := ((Below.refl _ _).alloc (Nat.le_refl _) o).alloc (by simp) o'
set_option maxHeartbeats 1600000 in
set_option maxRecDepth 100000 in
theorem same02_any {B0 B1 : Nat} (k1 k2 : Int) (s1 s2 : ByteArray) (A1 A2 : Option Addr) (n1 n2 c1 c2 : Nat) (xs ys : List Int) (w : World) (h1 : Rds B0 w .i64 A1 n1 c1 xs) (h2 : Rds B1 w .i64 A2 n2 c2 ys) :
    Calls Try.prog 51 #[.agg #[.int .i64 k1, .string s1, .slice A1 n1 c1], .agg #[.int .i64 k2, .string s2, .slice A2 n2 c2]] w (SameNPost ⟨k1, s1, xs⟩ ⟨k2, s2, ys⟩ w) := by
  have H1 := Lib.hid h1
  have H2 := Lib.hid h2
  clear h1 h2
  go_enter Try.func51, Try.ntmps51
  by_cases e2 : k1 = 2
  · subst e2
    go_wp2_with fail
    go_ret
    exact sameN_no (fun h => h.1 rfl) (below_two _ _)
  have e2' : (k1 == 2) = false := by simp [e2]
  have E2 := Lib.hid e2
  clear e2
  by_cases e3 : k1 = k2
  rotate_left
  · have e3' : (k1 != k2) = true := by simp [e3]
    have E3 := Lib.hid e3
    clear e3
    go_wp2_with fail
    go_ret
    exact sameN_no (fun h => E3.out (by have := h.2; simp at this; exact this.1)) (below_two _ _)
  subst e3
  by_cases e4 : s1 = s2
  rotate_left
  · have e4' : (s1.toList == s2.toList) = false := by rw [str_beq]; simp [e4]
    have e4'' : (s1.toList != s2.toList) = true := by simp [bne, e4']
    have E4 := Lib.hid e4
    clear e4
    go_wp2_with fail
    go_ret
    exact sameN_no (fun h => E4.out (by have := h.2; simp at this; exact this.1)) (below_two _ _)
  subst e4
  by_cases e5 : n1 = n2
  rotate_left
  · have e5' : ((n1 : Int) != (n2 : Int)) = true := by simp; omega
    have E5 := Lib.hid e5
    clear e5
    go_wp2_with fail
    go_ret
    exact sameN_no (fun h => E5.out (by have := h.2; simp at this; rw [← H1.out.len, ← H2.out.len, this])) (below_two _ _)
  subst e5
  have Hn := Lib.hid H1.out.len
  have Hm := Lib.hid H2.out.len
  have hm : n1 ≤ 9223372036854775807 := Nat.le_trans H1.out.cap H1.out.max
  go_wp2_with fail
  obtain ⟨W, hW⟩ : ∃ W, W = (w.alloc (.cells #[.int .i64 k1, .string s1, .slice A1 n1 c1] 71)).alloc (.cells #[.int .i64 k1, .string s1, .slice A2 n1 c2] 71) := ⟨_, rfl⟩
  have HW := Lib.hid hW
  rw [← hW]
  clear hW
  have bW : Hid (Below w.heap.size w W) := by rw [HW.out]; exact below_two _ _
  have d1 : W.cell? ⟨w.heap.size, 2, none⟩ = some (.slice A1 n1 c1) := by rw [HW.out]; simp [go_sem]
  have d2 : W.cell? ⟨w.heap.size + 1, 2, none⟩ = some (.slice A2 n1 c2) := by rw [HW.out]; simp [go_sem]
  have Hx := Lib.hid (H1.out.below bW.out).cell
  have Hy := Lib.hid (H2.out.below bW.out).cell
  clear H1 H2 HW
  go_loopw [5] (fun i wr => ∃ k : Nat, k ≤ n1 ∧ i = .int .i64 k ∧ Hid (∀ j, j < k → nth xs j = nth ys j) ∧ ∃ q, wr = W.drewN q) (fun i _ => n1 - (intOf i).toNat)
  case atStart => exact ⟨0, Nat.zero_le _, rfl, fun j hj => by omega, 0, rfl⟩
  case round =>
    obtain ⟨k, hk, rfl, hq, q, rfl⟩ := hrel
    by_cases hlt : k < n1
    · obtain ⟨b, o, rfl, hcx⟩ := RdI.at_ Hx.out (by have := Hn.out; omega)
      obtain ⟨b', o', rfl, hcy⟩ := RdI.at_ Hy.out (by have := Hm.out; omega)
      have g1 := hcx k (by have := Hn.out; omega)
      have g2 := hcy k (by have := Hm.out; omega)
      clear hcx hcy
      by_cases hz : nth xs k = nth ys k
      · have hz' : (nth xs k != nth ys k) = false := by simp [hz]
        have HZ := Lib.hid hz; clear hz
        go_wp2
        go_quiet (fail)
        go_wp2
        go_roundw
        case rel => exact ⟨k + 1, by omega, by go_num, fun j hj => by
          rcases Nat.lt_or_ge j k with h | h
          · exact hq.out j h
          · obtain rfl : j = k := by omega
            exact HZ.out, _, rfl⟩
        case measure => simp [intOf]; omega
      · have hz' : (nth xs k != nth ys k) = true := by simp [hz]
        have HZ := Lib.hid hz; clear hz
        go_wp2
        go_quiet (fail)
        go_wp2
        go_ret
        exact sameN_no (fun h => by have := h.2; simp at this; exact HZ.out (by rw [this])) (below_drewN (below_drewN bW.out _) _)
    · go_wp2
      go_ret
      have he : xs = ys := ext_nth (Hn.out.trans Hm.out.symm) fun j hj => hq.out j (by have := Hn.out; omega)
      exact sameN_yes ⟨E2.out, by rw [he]⟩ (below_drewN bW.out _)

/-- The blocks that the reference's table turns. -/
def refO : Obj → Bool
  | .cells _ t _ => t == 32 || t == 71
  | _ => false
theorem refO_sp : ∀ o, refO o = true → spO o = true := by
  intro o h
  unfold refO at h
  unfold spO
  split at h
  · rename_i c t f
    simp only [Bool.or_eq_true, beq_iff_eq] at h
    rcases h with rfl | rfl <;> rfl
  · cases h
theorem tab_ref : ∀ o, tabT o = true → refO o = false := by
  intro o h
  unfold tabT at h
  unfold refO
  split at h
  · rename_i c t f
    simp only [Bool.or_eq_true, beq_iff_eq] at h
    rcases h with rfl | rfl <;> rfl
  · rfl
  · cases h
theorem ref_tab : ∀ o, refO o = true → tabO o = false := by
  intro o h
  cases e : tabO o with
  | false => rfl
  | true => rw [tab_ref o (tabO_T o e)] at h; cases h
/-- Block rb of w is a reference's table that holds T; all of it lies from B on. -/
def IsRef (B : Nat) (w : World) (rb : Nat) (T : List Nd) : Prop :=
  WfT T ∧ B ≤ rb ∧ ∃ v cs, w.heap[rb]? = some (.cells #[v] 32 (0, 0)) ∧ w.ownsRow B 71 3 v T.length cs ∧ CellsOk B w T cs
theorem IsRef.below {B : Nat} {w w' : World} {rb : Nat} {T : List Nd} (h : IsRef B w rb T) (hf : Below w.heap.size w w') : IsRef B w' rb T := by
  obtain ⟨h1, h2, v, cs, g1, g5, g6⟩ := h
  exact ⟨h1, h2, v, cs, (hf.block _ (lt_of_get g1)).trans g1, g5.kept (grown_of_below hf none) (by cases v.ownBlock <;> simp), g6.frm (.of_below hf)⟩
theorem IsRef.frm {C : Obj → Bool} {B B' : Nat} {w w' : World} {rb : Nat} {T : List Nd} (h : IsRef B w rb T) (hf : Frm C B' w w') (hB : B ≤ B') (hc : ∀ o, refO o = true → C o = false) (hs : ∀ o, C o = true → spO o = true) : IsRef B w' rb T := by
  obtain ⟨h1, h2, v, cs, g1, g5, g6⟩ := h
  refine ⟨h1, h2, v, cs, hf.block _ _ g1 (.inr (hc _ (by simp [refO]))), ⟨g5.1, ?_⟩, g6.frm' hf hB hs⟩
  rcases g5.2 with k | ⟨g, cap, cur, e, k1, k2, k3⟩
  · exact .inl k
  · exact .inr ⟨g, cap, cur, e, k1, hf.block _ _ k2 (.inr (hc _ (by simp [refO]))), k3⟩
theorem IsRef.lt {B : Nat} {w : World} {rb : Nat} {T : List Nd} (h : IsRef B w rb T) : rb < w.heap.size := by
  obtain ⟨h1, h2, v, cs, g1, _⟩ := h
  exact lt_of_get g1
set_option maxHeartbeats 800000 in
set_option maxRecDepth 100000 in
theorem kind02_any {B rb : Nat} {T : List Nd} (h : Int) (w : World) (ht : IsRef B w rb T) (h0 : -9223372036854775808 ≤ h) (h1 : h ≤ 9223372036854775807) :
    Calls Try.prog 43 #[.pointer (some ⟨rb, 0, none⟩), .int .i64 h] w fun e w' => e = .returned (.int .i64 (kindT T h)) ∧ w = w' := by
  obtain ⟨hw, hB, v, cs, g1, hown, hcs⟩ := ht
  obtain ⟨A, cA, rfl⟩ := owned_slice hown
  have c0 : w.cell? ⟨rb, 0, none⟩ = some (.slice A T.length cA) := by rw [cell_of_row w rb 0 _ _ _ g1]; rfl
  have htb : rb < w.heap.size := lt_of_get g1
  have hTl := hw.len
  have Hown := Lib.hid hown
  have Hcs := Lib.hid hcs
  clear hw g1 hown hcs
  by_cases hl : h < 1
  · have HN := Lib.hid (getT_none (T := T) (h := h) (by omega))
    go_enter Try.func43, Try.ntmps43
    go_wp2_with fail
    go_ret
    exact ⟨by unfold kindT; rw [HN.out]; rfl, rfl⟩
  by_cases hh : (T.length : Int) < h
  · have HN := Lib.hid (getT_none (T := T) (h := h) (by omega))
    go_enter Try.func43, Try.ntmps43
    go_wp2_with fail
    go_ret
    exact ⟨by unfold kindT; rw [HN.out]; rfl, rfl⟩
  obtain ⟨i, rfl⟩ : ∃ i : Nat, h = (i : Int) + 1 := ⟨(h - 1).toNat, by omega⟩
  have hi : i < T.length := by omega
  obtain ⟨n, hn⟩ : ∃ n, T[i]? = some n := ⟨_, List.getElem?_eq_getElem hi⟩
  have HK : Hid (kindT T ((i : Int) + 1) = n.kind) := kindT_get ((getT_nat i).trans hn)
  obtain ⟨g, cap, e1, hfrm⟩ := Hown.out.form (by omega)
  cases e1
  have k0 : w.cell? ⟨g, i * 3, none⟩ = some (.int .i64 n.kind) := by rw [Hown.out.cellAt _ (by omega)]; exact Hcs.out.kind i n hn
  have hi0 : (0 : Int) ≤ (i : Int) := by omega
  have hiT : (i : Int) < (T.length : Int) := by omega
  clear hn hfrm
  go_enter Try.func43, Try.ntmps43
  go_wp2_with fail
  go_ret
  exact ⟨by rw [HK.out]; rfl, rfl⟩
end Go.Proofs.Ytmaedahleenlgaa
