/- The map of a table: its keys, what is found, what is put. No condition. -/
import Derived.Test.YtomopjpfdmpgpaaBase
import Derived.Test.YtomopjpfdmpgpaaPureTab
import Derived.DeepKeys4
import Derived.WideKeyMaps
set_option linter.unusedVariables false
set_option linter.unusedSimpArgs false
namespace Go.Proofs.Ytomopjpfdmpgpaa
open Go Go.RowKit Go.WideMaps

theorem key_laid : laidOutB Try.prog = true := by kernel_rfl
theorem key_law : KeyLaw Try.prog 112 := deep_law_laid key_laid (m := 4) (by omega) (of_decide_eq_true (by kernel_rfl)) (by kernel_rfl) (by rw [Try.underlying112])
theorem key_deep : Try.prog.keyType 112 = true := by kernel_rfl
theorem cells_key : Try.prog.cellsOf 112 = 19 := by kernel_rfl
theorem cells_parts : Try.prog.cellsOf 110 = 16 := by kernel_rfl
theorem cells_int : Try.prog.cellsOf 3 = 1 := by kernel_rfl
theorem cells_string : Try.prog.cellsOf 9 = 1 := by kernel_rfl
theorem cells_term : Try.prog.cellsOf 32 = 1 := by kernel_rfl
theorem types_pos : ∃ m, Try.prog.types.size + 1 = m + 3 := ⟨Try.prog.types.size - 2, by have : 2 ≤ Try.prog.types.size := of_decide_eq_true (by kernel_rfl); omega⟩

theorem wf_small' : ∀ n, n < 17 → (Lit.int .i64 ((n : Nat) : Int)).wf = true := by decide
theorem wf_small (n : Nat) (h : n ≤ 16) : (Lit.int .i64 (n : Int)).wf = true := wf_small' n (by omega)
/-- A term's parts, filled up to sixteen. -/
def padP (ps : List Int) : List Int := ps ++ List.replicate (16 - ps.length) 0
theorem padP_length {ps : List Int} (h : ps.length ≤ 16) : (padP ps).length = 16 := by simp [padP]; omega
theorem padP_inj {ps qs : List Int} (hl : ps.length = qs.length) (h : padP ps = padP qs) : ps = qs := by
  unfold padP at h
  exact (List.append_inj h hl).1
/-- A term's key. -/
def keyV (n : Nd) : Value := .agg ((Value.int .i64 n.kind :: .string n.text :: .int .i64 n.parts.length :: (padP n.parts).map (Value.int .i64)).toArray)
theorem keyV_inj {n m : Nd} (h : keyV n = keyV m) : n = m := by
  unfold keyV at h
  injection h with h
  have h := congrArg Array.toList h
  simp only [List.cons.injEq, Value.int.injEq, true_and, Value.string.injEq] at h
  obtain ⟨h1, h2, h3, h4⟩ := h
  have h5 : padP n.parts = padP m.parts := by
    have h7 := congrArg (List.map intOf) h4
    simpa [List.map_map, Function.comp_def, intOf] using h7
  have h6 := padP_inj (by omega) h5
  cases n; cases m; simp_all

theorem mapM_isSome {α β : Type} (f : α → Option β) : ∀ l : List α, (∀ x ∈ l, (f x).isSome = true) → (l.mapM f).isSome = true
  | [], _ => by simp
  | a :: l, h => by
    obtain ⟨b, hb⟩ := Option.isSome_iff_exists.1 (h a (by simp))
    obtain ⟨c, hc⟩ := Option.isSome_iff_exists.1 (mapM_isSome f l fun x hx => h x (by simp [hx]))
    simp [List.mapM_cons, hb, hc]
theorem keyLits_int (d : Nat) {n : Int} (h : (Lit.int .i64 n).wf = true) : (Try.prog.keyLits (d + 1) 3 [.int .i64 n]).isSome = true := by
  simp [Program.keyLits, Try.underlying3, h]
theorem keyLits_term (d : Nat) {n : Int} (h : (Lit.int .i64 n).wf = true) : (Try.prog.keyLits (d + 1) 32 [.int .i64 n]).isSome = true := by
  simp [Program.keyLits, Try.underlying32, h]
theorem keyLits_string (d : Nat) {s : ByteArray} (h : s.size ≤ maxLen) : (Try.prog.keyLits (d + 1) 9 [.string s]).isSome = true := by
  simp [Program.keyLits, Try.underlying9, h]
theorem keyLits_parts (d : Nat) {ps : List Int} (hl : ps.length = 16) (h : ∀ p ∈ ps, (Lit.int .i64 p).wf = true) : (Try.prog.keyLits (d + 2) 110 (ps.map (Value.int .i64))).isSome = true := by
  unfold Program.keyLits
  simp only [Try.underlying110, cells_parts, List.length_map, hl, if_true, Option.isSome_map, cells_term, Nat.mul_one]
  refine mapM_isSome _ _ fun i hi => ?_
  have hi' : i < 16 := by simpa using hi
  have e : ((ps.map (Value.int .i64)).drop i).take 1 = [.int .i64 (nth ps i)] := by
    rw [List.take_one, List.head?_drop, List.getElem?_map, nth_lt (by omega)]; rfl
  rw [e]
  exact keyLits_term d (h _ (nth_mem (by omega)))

structure KeyOk (n : Nd) : Prop where
  kind : (Lit.int .i64 n.kind).wf = true
  text : n.text.size ≤ maxLen
  many : n.parts.length ≤ 16
  parts : ∀ p ∈ n.parts, (Lit.int .i64 p).wf = true
theorem key_some {n : Nd} (h : KeyOk n) : ∃ l, keyOf Try.prog 112 (keyV n) = some l := by
  apply Option.isSome_iff_exists.1
  have hp := padP_length h.many
  have hw : ∀ p ∈ padP n.parts, (Lit.int .i64 p).wf = true := by
    intro p hp
    rcases List.mem_append.1 hp with hp | hp
    · exact h.parts p hp
    · rw [List.eq_of_mem_replicate hp]; decide
  have hlen : (keyV n).cells.toList.length = 19 := by simp [keyV, Value.cells, hp]
  have hform : (keyV n).formed Try.prog 112 = true := by
    simp [keyV, Value.formed, Try.underlying112, cells_key, hp]
  obtain ⟨m, hm⟩ := types_pos
  unfold keyOf
  rw [Try.underlying112]
  simp only [key_deep, hform, Bool.and_self, if_true, Option.isSome_map]
  rw [hm]
  unfold Program.keyLits
  rw [Try.underlying112]
  simp only [hlen, cells_key]
  simp only [List.all_toArray, List.all_cons, List.all_nil, Bool.and_true]
  rw [if_pos ⟨by trivial, by decide⟩]
  simp only [Option.isSome_map]
  have hmany : (Lit.int .i64 (n.parts.length : Int)).wf = true := by
    have := h.many
    exact wf_small _ this
  refine mapM_isSome _ _ fun f hf => ?_
  simp only [List.mem_cons, List.not_mem_nil, or_false] at hf
  rcases hf with rfl | rfl | rfl | rfl
  · simpa [keyV, Value.cells, cells_int] using keyLits_int (m + 1) h.kind
  · simpa [keyV, Value.cells, cells_string] using keyLits_string (m + 1) h.text
  · simpa [keyV, Value.cells, cells_int] using keyLits_int (m + 1) hmany
  · have := keyLits_parts m hp hw
    simpa [keyV, Value.cells, cells_parts, List.take_of_length_le, hp] using this
end Go.Proofs.Ytomopjpfdmpgpaa
