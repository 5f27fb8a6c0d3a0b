/- Plain: what is made twice has one number. No condition. -/
import Derived.Test.YtomopjpfdmpgpaaDerives
set_option linter.unusedVariables false
set_option linter.unusedSimpArgs false
namespace Go.Proofs.Ytomopjpfdmpgpaa
open Go Go.RowKit

theorem addT_again {T T' : List Nd} {n : Nd} {h : Int} (hw : WfT T') (e : addT T n = (T', h)) (h0 : h ≠ 0) (hk : n.kind ≠ 2) : addT T' n = (T', h) := by
  unfold addT at e
  rw [if_neg hk] at e
  split at e
  · rename_i i hi
    simp only [Prod.mk.injEq] at e
    obtain ⟨rfl, rfl⟩ := e
    unfold addT
    rw [if_neg hk, hi]
  · split at e
    · simp only [Prod.mk.injEq] at e
      exact absurd e.2.symm h0
    · simp only [Prod.mk.injEq] at e
      obtain ⟨rfl, rfl⟩ := e
      unfold addT
      rw [if_neg hk, lookT_of (i := T.length) hw (by simp) hk]
theorem addT_ext (T : List Nd) (n : Nd) : ∃ R, (addT T n).1 = T ++ R := by
  unfold addT
  split
  · exact ⟨[], by simp⟩
  · split
    · exact ⟨[], by simp⟩
    · exact ⟨[n], rfl⟩
theorem textT_again {T T' : List Nd} {b : ByteArray} {h : Int} (hw : WfT T') (e : textT T b = (T', h)) (h0 : h ≠ 0) : textT T' b = (T', h) := by
  unfold textT at e ⊢
  split at e
  · rename_i hb
    rw [if_pos hb]
    exact addT_again hw e h0 (by show (1 : Int) ≠ 2; decide)
  · simp only [Prod.mk.injEq] at e
    exact absurd e.2.symm h0
theorem makeT_again {T T' : List Nd} {k : Int} {p : List Int} {h : Int} (hT : WfT T) (hw : WfT T') (e : makeT T k p = (T', h)) (h0 : h ≠ 0) : makeT T' k p = (T', h) := by
  by_cases c1 : (0 : Int) ∈ p.map (kindT T)
  · rw [make_no1 c1] at e
    simp only [Prod.mk.injEq] at e
    exact absurd e.2.symm h0
  by_cases c2 : formedT k (p.map (kindT T)) = false
  · rw [make_no2 c2] at e
    simp only [Prod.mk.injEq] at e
    exact absurd e.2.symm h0
  have c2 : formedT k (p.map (kindT T)) = true := by simpa using c2
  rw [make_yes c1 c2] at e
  obtain ⟨R, hR⟩ := addT_ext T ⟨k, ByteArray.empty, ownT T k p⟩
  rw [e] at hR
  simp only at hR
  have hkm : p.map (kindT T') = p.map (kindT T) := by
    apply List.map_congr_left
    intro x hx
    rw [hR]
    exact kindT_mono rfl fun h => c1 (List.mem_map.2 ⟨x, hx, h⟩)
  have how : ownT T' k p = ownT T k p := by
    unfold ownT
    split
    · rename_i h8
      subst h8
      have h3 := formed8_len c2
      have hl : p.length = 2 := by simpa using h3.1
      have h7 : kindT T (nth p 1) = 7 := by
        have := h3.2.2
        rwa [nth_map (by omega)] at this
      obtain ⟨q, hq, _⟩ := public_of hT h7
      rw [hq, hR, getT_mono hq]
    · rfl
  rw [make_yes (by rw [hkm]; exact c1) (by rw [hkm]; exact c2), how]
  have hk := formed_kind c2
  exact addT_again hw e h0 (by show k ≠ 2; omega)
/-- What a step does with a table. -/
def stepT (T : List Nd) (kind : Int) (text : ByteArray) (parts : List Int) : List Nd × Int :=
  if kind = 1 then textT T text else if kind = 2 then secretT T else makeT T kind parts
theorem textT_len {T : List Nd} {b : ByteArray} : (textT T b).1.length ≤ T.length + 1 := by
  unfold textT addT
  split
  · split
    · simp
    · split <;> simp
  · simp
theorem parts_less {T : List Nd} (hw : WfT T) {h : Int} (p : Int) (hp : p ∈ (nodeT T h).parts) : 1 ≤ p ∧ p < h := by
  unfold nodeT at hp
  cases e : getT T h with
  | none => rw [e] at hp; simp at hp
  | some n =>
    rw [e] at hp
    have hr := getT_range e
    have := (hw.get e).range p (by simpa using hp)
    omega
theorem addT_range {T : List Nd} {n : Nd} (h : T.length ≤ 65536) : 0 ≤ (addT T n).2 ∧ (addT T n).2 ≤ 65536 := by
  unfold addT
  split
  · rename_i i hi
    split at hi
    · cases hi
    · have := (List.getElem?_eq_some_iff.1 (lookT_some hi)).1
      show 0 ≤ (i : Int) + 1 ∧ (i : Int) + 1 ≤ 65536
      omega
  · split
    · show (0 : Int) ≤ 0 ∧ (0 : Int) ≤ 65536
      omega
    · show 0 ≤ (T.length : Int) + 1 ∧ (T.length : Int) + 1 ≤ 65536
      omega
theorem makeT_range {T : List Nd} {k : Int} {p : List Int} (h : T.length ≤ 65536) : 0 ≤ (makeT T k p).2 ∧ (makeT T k p).2 ≤ 65536 := by
  unfold makeT
  split
  · show (0 : Int) ≤ 0 ∧ (0 : Int) ≤ 65536
    omega
  · exact addT_range h
theorem stepT_range {T : List Nd} {kind : Int} {text : ByteArray} {parts : List Int} (h : T.length ≤ 65536) : 0 ≤ (stepT T kind text parts).2 ∧ (stepT T kind text parts).2 ≤ 65536 := by
  unfold stepT
  split
  · exact textT_range h
  · split
    · exact addT_range h
    · exact makeT_range h
end Go.Proofs.Ytomopjpfdmpgpaa
