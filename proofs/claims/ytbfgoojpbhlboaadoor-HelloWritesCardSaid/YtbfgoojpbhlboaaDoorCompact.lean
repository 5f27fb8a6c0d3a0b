/- Plain: a sorted list's Compact is as long as the list just if no two of it are alike. No condition. -/
import Derived.Lib.SlicesCompact
import Derived.Test.YtbfgoojpbhlboaaDoorPureVar
set_option linter.unusedVariables false
set_option linter.unusedSimpArgs false
namespace Go.Proofs.YtbfgoojpbhlboaaDoor
open Go Go.Lib

theorem filter_len {α : Type} (p : α → Bool) : ∀ l : List α, (l.filter p).length = l.length ↔ ∀ x ∈ l, p x = true
  | [] => by simp
  | a :: l => by
    have ih := filter_len p l
    have hle := List.length_filter_le p l
    by_cases h : p a = true
    · rw [List.filter_cons_of_pos h]
      simp [ih, h]
    · rw [List.filter_cons_of_neg h]
      constructor
      · intro k; simp at k; omega
      · intro k; exact absurd (k a (by simp)) h
theorem compact_len {s : List Int} : (compactUpTo s.toArray s.length).length = s.length ↔ ∀ j, 0 < j → j < s.length → s[j]! ≠ s[j-1]! := by
  unfold compactUpTo
  rw [List.length_map]
  have := filter_len (keeps s.toArray) (List.range s.length)
  rw [List.length_range] at this
  rw [this]
  constructor
  · intro h j h0 hj
    have := h j (List.mem_range.2 hj)
    unfold keeps at this
    simp at this
    rcases this with k | k
    · omega
    · simpa using k
  · intro h j hj
    rw [List.mem_range] at hj
    unfold keeps
    by_cases h0 : j = 0
    · simp [h0]
    · have := h j (by omega) hj
      simp [h0]
      simpa using this
theorem compact_nodup {s l : List Int} (hp : s.Perm l) (hs : s.Pairwise (· ≤ ·)) : (compactUpTo s.toArray s.length).length = l.length ↔ l.Nodup := by
  rw [← hp.length_eq, compact_len]
  have e : s.Nodup ↔ l.Nodup := hp.nodup_iff
  rw [← e]
  constructor
  · intro h
    have hlt : s.Pairwise (· < ·) := by
      rw [List.pairwise_iff_getElem] at hs ⊢
      intro i j hi hj hij
      have h1 := hs i (j-1) hi (by omega)
      have h2 := hs (j-1) j (by omega) hj (by omega)
      have h3 := h j (by omega) hj
      rw [getElem!_pos s j hj, getElem!_pos s (j-1) (by omega)] at h3
      by_cases e : i = j - 1
      · subst e; omega
      · have := h1 (by omega); omega
    exact hlt.imp (fun h => by omega)
  · intro h j h0 hj
    rw [List.nodup_iff_pairwise_ne, List.pairwise_iff_getElem] at h
    have := h (j-1) j (by omega) hj (by omega)
    rw [getElem!_pos s j hj, getElem!_pos s (j-1) (by omega)]
    exact fun e => this e.symm
end Go.Proofs.YtbfgoojpbhlboaaDoor
