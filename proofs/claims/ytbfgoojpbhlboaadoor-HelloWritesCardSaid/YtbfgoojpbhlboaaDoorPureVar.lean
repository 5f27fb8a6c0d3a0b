/- Plain: numbers of one to eight bytes (layer 1). No condition. -/
import Derived.Test.YtbfgoojpbhlboaaDoorPureIdeal
set_option linter.unusedVariables false
set_option linter.unusedSimpArgs false
namespace Go.Proofs.YtbfgoojpbhlboaaDoor
open Go Go.RowKit

/-- A number's size; 0: it is none. -/
def sizeV (n : Int) : Nat := if n < 0 ∨ 4611686018427387903 < n then 0 else if n < 64 then 1 else if n < 16384 then 2 else if n < 1073741824 then 4 else 8
theorem sizeV_none {n : Int} (h : n < 0 ∨ 4611686018427387903 < n) : sizeV n = 0 := if_pos h
theorem sizeV_one {n : Int} (h0 : 0 ≤ n) (h1 : n < 64) : sizeV n = 1 := by unfold sizeV; rw [if_neg (by omega), if_pos h1]
theorem sizeV_two {n : Int} (h0 : 64 ≤ n) (h1 : n < 16384) : sizeV n = 2 := by unfold sizeV; rw [if_neg (by omega), if_neg (by omega), if_pos h1]
theorem sizeV_four {n : Int} (h0 : 16384 ≤ n) (h1 : n < 1073741824) : sizeV n = 4 := by unfold sizeV; rw [if_neg (by omega), if_neg (by omega), if_neg (by omega), if_pos h1]
theorem sizeV_eight {n : Int} (h0 : 1073741824 ≤ n) (h1 : n ≤ 4611686018427387903) : sizeV n = 8 := by unfold sizeV; rw [if_neg (by omega), if_neg (by omega), if_neg (by omega), if_neg (by omega)]
theorem sizeV_cases (n : Int) : (sizeV n = 0 ∧ (n < 0 ∨ 4611686018427387903 < n)) ∨ (sizeV n = 1 ∧ 0 ≤ n ∧ n < 64) ∨ (sizeV n = 2 ∧ 64 ≤ n ∧ n < 16384) ∨ (sizeV n = 4 ∧ 16384 ≤ n ∧ n < 1073741824) ∨ (sizeV n = 8 ∧ 1073741824 ≤ n ∧ n ≤ 4611686018427387903) := by
  by_cases h : n < 0 ∨ 4611686018427387903 < n
  · exact .inl ⟨sizeV_none h, h⟩
  by_cases h1 : n < 64
  · exact .inr (.inl ⟨sizeV_one (by omega) h1, by omega, h1⟩)
  by_cases h2 : n < 16384
  · exact .inr (.inr (.inl ⟨sizeV_two (by omega) h2, by omega, h2⟩))
  by_cases h3 : n < 1073741824
  · exact .inr (.inr (.inr (.inl ⟨sizeV_four (by omega) h3, by omega, h3⟩)))
  · exact .inr (.inr (.inr (.inr ⟨sizeV_eight (by omega) (by omega), by omega, by omega⟩)))
theorem sizeV_pos {n : Int} : sizeV n ≠ 0 ↔ 0 ≤ n ∧ n ≤ 4611686018427387903 := by
  rcases sizeV_cases n with h | h | h | h | h <;> omega
/-- A number's bytes. -/
def varB (n : Int) : List Int :=
  if sizeV n = 1 then [n]
  else if sizeV n = 2 then [n / 256 + 64, n % 256]
  else if sizeV n = 4 then [n / 16777216 + 128, n / 65536 % 256, n / 256 % 256, n % 256]
  else if sizeV n = 8 then [n / 72057594037927936 + 192, n / 281474976710656 % 256, n / 1099511627776 % 256, n / 4294967296 % 256, n / 16777216 % 256, n / 65536 % 256, n / 256 % 256, n % 256]
  else []
theorem varB_none {n : Int} (h : sizeV n = 0) : varB n = [] := by unfold varB; rw [h]; rfl
theorem varB_one {n : Int} (h : sizeV n = 1) : varB n = [n] := by unfold varB; rw [h]; rfl
theorem varB_two {n : Int} (h : sizeV n = 2) : varB n = [n / 256 + 64, n % 256] := by unfold varB; rw [h]; rfl
theorem varB_four {n : Int} (h : sizeV n = 4) : varB n = [n / 16777216 + 128, n / 65536 % 256, n / 256 % 256, n % 256] := by unfold varB; rw [h]; rfl
theorem varB_eight {n : Int} (h : sizeV n = 8) : varB n = [n / 72057594037927936 + 192, n / 281474976710656 % 256, n / 1099511627776 % 256, n / 4294967296 % 256, n / 16777216 % 256, n / 65536 % 256, n / 256 % 256, n % 256] := by unfold varB; rw [h]; rfl
theorem varB_len (n : Int) : (varB n).length = sizeV n := by
  rcases sizeV_cases n with ⟨h, _⟩ | ⟨h, _⟩ | ⟨h, _⟩ | ⟨h, _⟩ | ⟨h, _⟩
  · rw [varB_none h, h]; rfl
  · rw [varB_one h, h]; rfl
  · rw [varB_two h, h]; rfl
  · rw [varB_four h, h]; rfl
  · rw [varB_eight h, h]; rfl
theorem varB_byt (n : Int) : Byt (varB n) := by
  rcases sizeV_cases n with ⟨h, h1⟩ | ⟨h, h1⟩ | ⟨h, h1⟩ | ⟨h, h1⟩ | ⟨h, h1⟩
  · rw [varB_none h]; intro x hx; simp at hx
  · rw [varB_one h]; intro x hx; simp at hx; omega
  · rw [varB_two h]; intro x hx; simp at hx; omega
  · rw [varB_four h]; intro x hx; simp at hx; omega
  · rw [varB_eight h]; intro x hx; simp at hx; omega
/-- How many bytes a first byte tells. -/
def sizeOfB (x : Int) : Nat := if x < 64 then 1 else if x < 128 then 2 else if x < 192 then 4 else 8
def beF (a : Int) (xs : List Int) : Int := xs.foldl (fun a x => a * 256 + x) a
/-- A number, its size, an error's number. -/
def readV (b : List Int) : Int × Nat × Int :=
  if b.length = 0 then (0, 0, 2)
  else if b.length < sizeOfB (nth b 0) then (0, 0, 2)
  else if sizeV (beF (nth b 0 % 64) ((b.take (sizeOfB (nth b 0))).drop 1)) ≠ sizeOfB (nth b 0) then (0, 0, 3)
  else (beF (nth b 0 % 64) ((b.take (sizeOfB (nth b 0))).drop 1), sizeOfB (nth b 0), 0)
theorem readV_varB {n : Int} (h : sizeV n ≠ 0) (r : List Int) : readV (varB n ++ r) = (n, sizeV n, 0) := by
  rcases sizeV_cases n with ⟨k, h1⟩ | ⟨k, h1, h2⟩ | ⟨k, h1, h2⟩ | ⟨k, h1, h2⟩ | ⟨k, h1, h2⟩
  · exact absurd k h
  · rw [varB_one k]
    have hs : sizeOfB n = 1 := if_pos h2
    have hb : beF (n % 64) [] = n := by simp [beF]; omega
    simp only [readV, List.cons_append, List.nil_append, List.length_cons, nth, List.getD_cons_zero, hs, List.take_succ_cons, List.take_zero, List.drop_succ_cons, List.drop_zero, hb]
    rw [if_neg (by omega), if_neg (by omega), if_neg (by simp [k]), k]
  · rw [varB_two k]
    have hs : sizeOfB (n / 256 + 64) = 2 := by unfold sizeOfB; rw [if_neg (by omega), if_pos (by omega)]
    have hb : beF ((n / 256 + 64) % 64) [n % 256] = n := by simp [beF]; omega
    simp only [readV, List.cons_append, List.nil_append, List.length_cons, nth, List.getD_cons_zero, hs, List.take_succ_cons, List.take_zero, List.drop_succ_cons, List.drop_zero, hb]
    rw [if_neg (by omega), if_neg (by omega), if_neg (by simp [k]), k]
  · rw [varB_four k]
    have hs : sizeOfB (n / 16777216 + 128) = 4 := by unfold sizeOfB; rw [if_neg (by omega), if_neg (by omega), if_pos (by omega)]
    have hb : beF ((n / 16777216 + 128) % 64) [n / 65536 % 256, n / 256 % 256, n % 256] = n := by simp only [beF, List.foldl_cons, List.foldl_nil]; omega
    simp only [readV, List.cons_append, List.nil_append, List.length_cons, nth, List.getD_cons_zero, hs, List.take_succ_cons, List.take_zero, List.drop_succ_cons, List.drop_zero, hb]
    rw [if_neg (by omega), if_neg (by omega), if_neg (by simp [k]), k]
  · rw [varB_eight k]
    have hs : sizeOfB (n / 72057594037927936 + 192) = 8 := by unfold sizeOfB; rw [if_neg (by omega), if_neg (by omega), if_neg (by omega)]
    have hb : beF ((n / 72057594037927936 + 192) % 64) [n / 281474976710656 % 256, n / 1099511627776 % 256, n / 4294967296 % 256, n / 16777216 % 256, n / 65536 % 256, n / 256 % 256, n % 256] = n := by simp only [beF, List.foldl_cons, List.foldl_nil]; omega
    simp only [readV, List.cons_append, List.nil_append, List.length_cons, nth, List.getD_cons_zero, hs, List.take_succ_cons, List.take_zero, List.drop_succ_cons, List.drop_zero, hb]
    rw [if_neg (by omega), if_neg (by omega), if_neg (by simp [k]), k]
theorem readV_err {b : List Int} {n : Int} {s : Nat} {e : Int} (h : readV b = (n, s, e)) : (e = 0 ∧ s ≠ 0 ∧ s = sizeV n ∧ s ≤ b.length) ∨ ((e = 2 ∨ e = 3) ∧ n = 0 ∧ s = 0) := by
  have hp : sizeOfB (nth b 0) ≠ 0 := by unfold sizeOfB; split <;> (try split) <;> (try split) <;> omega
  unfold readV at h
  split at h
  · simp only [Prod.mk.injEq] at h; omega
  split at h
  · simp only [Prod.mk.injEq] at h; omega
  split at h
  · simp only [Prod.mk.injEq] at h; omega
  · rename_i h1 h2 h3
    simp only [Prod.mk.injEq] at h
    obtain ⟨rfl, rfl, rfl⟩ := h
    left
    refine ⟨rfl, hp, ?_, by omega⟩
    exact (Classical.byContradiction fun k => h3 k : sizeV _ = sizeOfB _).symm
theorem readV_size {xs : List Int} : (readV xs).2.1 ≤ xs.length := by
  rcases readV_err (b := xs) (n := (readV xs).1) (s := (readV xs).2.1) (e := (readV xs).2.2) rfl with ⟨_, h2, h3, h4⟩ | ⟨h1, h2, h3⟩
  · exact h4
  · omega
/-- What a read number is. -/
theorem rd_ok {xs : List Int} (h : (readV xs).2.2 = 0) : (readV xs).2.1 ≤ xs.length ∧ 0 < (readV xs).2.1 ∧ (readV xs).2.1 = sizeV (readV xs).1 := by
  rcases readV_err (b := xs) (n := (readV xs).1) (s := (readV xs).2.1) (e := (readV xs).2.2) rfl with ⟨_, h2, h3, h4⟩ | ⟨h1, _⟩
  · exact ⟨h4, by omega, h3⟩
  · omega
theorem sizeV_le (n : Int) : sizeV n ≤ 8 := by rcases sizeV_cases n with h | h | h | h | h <;> omega
end Go.Proofs.YtbfgoojpbhlboaaDoor
