/- What Derive, Seal and Open do. No condition. -/
import Derived.Test.YtmaedahleenlgaaAwake2
import Derived.Lib.ConvBytes
set_option linter.unusedVariables false
set_option linter.unusedSimpArgs false
namespace Go.Proofs.Ytmaedahleenlgaa
open Go Go.RowKit Go.WideMaps

def numsL (s : ByteArray) : List Int := s.data.toList.map fun x => (x.toNat : Int)
theorem numsL_length (s : ByteArray) : (numsL s).length = s.size := by simp [numsL]
theorem str_numsL (s : ByteArray) : strOfNums (numsL s) = s := by
  cases s with | mk d =>
  simp [strOfNums, numsL, Function.comp_def]
theorem nth_numsL (s : ByteArray) {j : Nat} (h : j < s.size) : nth (numsL s) j = ((s.data.toList.getD j 0).toNat : Int) := by
  have h1 := nth_lt (xs := numsL s) (j := j) (by rw [numsL_length]; exact h)
  have h2 : j < s.data.toList.length := by simpa using h
  unfold numsL at h1
  rw [List.getElem?_map, List.getElem?_eq_getElem h2] at h1
  simp only [Option.map_some, Option.some.injEq] at h1
  rw [show numsL s = s.data.toList.map fun x => (x.toNat : Int) from rfl, ← h1]; simp [List.getD, List.getElem?_eq_getElem h2]
theorem run_str_bytes (w : World) (s : ByteArray) (hs : s.size ≤ 1000000) : ∃ c w', (convert 9 65 (.string s)).run Try.prog w = .ok (.slice (some ⟨w.heap.size, 0, none⟩) s.size c) w' ∧
    (∀ B, Rds B w' .u8 (some ⟨w.heap.size, 0, none⟩) s.size c (numsL s)) ∧ Below w.heap.size w w' := by
  refine ⟨_, _, Lib.run_convert_string_bytes w 9 65 5 s Try.underlying9 Try.underlying65 Try.underlying5, fun B => ⟨numsL_length s, grownCap_ge _ _ _ _, ?_, fun j hj => ?_, fun _ a e => ?_⟩, ⟨rfl, rfl, rfl, ?_, fun k hk => ?_⟩⟩
  · have := grownCap_le_maxLen w s.size 0 5 (by simp only [maxLen]; omega)
    simpa only [maxLen] using this
  · rw [numsL_length] at hj
    exact ⟨_, rfl, by rw [addr_add, Nat.zero_add, nth_numsL s hj]; exact Lib.bytesWorld_cell w _ s j hj⟩
  · cases e
    exact ⟨by rw [Lib.bytesWorld_size]; simp, .inr ⟨_, _, _, Lib.bytesWorld_at_new w _ s, by decide⟩⟩
  · rw [Lib.bytesWorld_size]; omega
  · exact Lib.bytesWorld_at_old w _ s k hk
theorem wp_str_bytes {w : World} {ops : Array Oper} {rest : List Oper} {o : Oper} {a : Act} {Q : Exit → Act → World → Prop} (hgd : o.guard = none) (x : Operand) (ho : o.op = .convert 9 65 x) (s : ByteArray) (hx : a.eval x = .string s) (hs : s.size ≤ 1000000)
    (h : ∀ c w', (∀ B, Rds B w' .u8 (some ⟨w.heap.size, 0, none⟩) s.size c (numsL s)) → Below w.heap.size w w' → wpList Try.prog ops Q rest (a.put o.dst (.slice (some ⟨w.heap.size, 0, none⟩) s.size c)) w') : wpList Try.prog ops Q (o :: rest) a w := by
  obtain ⟨c, w', e, h1, h2⟩ := run_str_bytes w s hs
  refine wp_op hgd (v := .slice (some ⟨w.heap.size, 0, none⟩) s.size c) ?_ (h c w' h1 h2)
  unfold execOp
  simp only [ho, hx, Sem.run_bind, e, Result.andThen_ok, Sem.run_pure]

theorem textT_range {T : List Nd} {b : ByteArray} (h : T.length ≤ 65536) : 0 ≤ (textT T b).2 ∧ (textT T b).2 ≤ 65536 := by
  unfold textT
  split
  · unfold addT
    split
    · rename_i i hi
      simp only [show ¬((1 : Int) = 2) by decide, if_false] at hi
      have := lookT_some hi
      have := (List.getElem?_eq_some_iff.1 this).1
      simp; omega
    · split <;> simp; omega
  · simp
def ctxT (T : List Nd) (c : Int) : List Nd × Int := if c = 0 then textT T ByteArray.empty else (T, c)
def deriveT (T : List Nd) (s : Int) (l : ByteArray) (c : Int) : List Nd × Int := makeT (textT (ctxT T c).1 l).1 6 [s, (textT (ctxT T c).1 l).2, (ctxT T c).2]
def sealT (T : List Nd) (k : Int) (hd : ByteArray) (c : Int) : List Nd × Int := makeT (textT T hd).1 10 [k, (textT T hd).2, c]
def BigI (x : Int) : Prop := -9223372036854775808 ≤ x ∧ x ≤ 9223372036854775807

theorem tabPost_next {B tb : Nat} {w w1 : World} {r : List Nd × Int} {e : Ending} {w' : World} (hf : Frm tabO B w w1) (p : TabPost B tb w1 r e w') : TabPost B tb w r e w' := ⟨p.1, p.2.1, hf.trans p.2.2⟩
end Go.Proofs.Ytmaedahleenlgaa
