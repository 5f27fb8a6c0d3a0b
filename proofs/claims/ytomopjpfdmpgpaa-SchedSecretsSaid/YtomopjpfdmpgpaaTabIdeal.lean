/- What Derive, Seal and Open do. No condition. -/
import Derived.Test.YtomopjpfdmpgpaaAwake2
import Derived.Lib.ConvBytes
set_option linter.unusedVariables false
set_option linter.unusedSimpArgs false
namespace Go.Proofs.Ytomopjpfdmpgpaa
open Go Go.RowKit Go.WideMaps

def numsL (s : ByteArray) : List Int := s.data.toList.map fun x => (x.toNat : Int)
theorem numsL_length (s : ByteArray) : (numsL s).length = s.size := by simp [numsL]
theorem str_numsL (s : ByteArray) : strOfNums (numsL s) = s := by
  cases s with | mk d =>
  simp [strOfNums, numsL, Function.comp_def]
theorem nth_numsL (s : ByteArray) {j : Nat} (h : j < s.size) : nth (numsL s) j = ((s.data.toList.getD j 0).toNat : Int) := by
  have h1 := nth_lt (xs := numsL s) (j := j) (by rw [numsL_length]; exact h)
  have h2 : j < s.data.toList.length := by simpa using h
  unfold numsL at h1
  rw [List.getElem?_map, List.getElem?_eq_getElem h2] at h1
  simp only [Option.map_some, Option.some.injEq] at h1
  rw [show numsL s = s.data.toList.map fun x => (x.toNat : Int) from rfl, ← h1]; simp [List.getD, List.getElem?_eq_getElem h2]
theorem run_str_bytes (w : World) (s : ByteArray) (hs : s.size ≤ 1000000) : ∃ c w', (convert 9 22 (.string s)).run Try.prog w = .ok (.slice (some ⟨w.heap.size, 0, none⟩) s.size c) w' ∧
    (∀ B, Rds B w' .u8 (some ⟨w.heap.size, 0, none⟩) s.size c (numsL s)) ∧ Below w.heap.size w w' := by
  refine ⟨_, _, Lib.run_convert_string_bytes w 9 22 5 s Try.underlying9 Try.underlying22 Try.underlying5, fun B => ⟨numsL_length s, grownCap_ge _ _ _ _, ?_, fun j hj => ?_, fun _ a e => ?_⟩, ⟨rfl, rfl, rfl, ?_, fun k hk => ?_⟩⟩
  · have := grownCap_le_maxLen w s.size 0 5 (by simp only [maxLen]; omega)
    simpa only [maxLen] using this
  · rw [numsL_length] at hj
    exact ⟨_, rfl, by rw [addr_add, Nat.zero_add, nth_numsL s hj]; exact Lib.bytesWorld_cell w _ s j hj⟩
  · cases e
    exact ⟨by rw [Lib.bytesWorld_size]; simp, .inr ⟨_, _, _, Lib.bytesWorld_at_new w _ s, by decide⟩⟩
  · rw [Lib.bytesWorld_size]; omega
  · exact Lib.bytesWorld_at_old w _ s k hk
theorem wp_str_bytes {w : World} {ops : Array Oper} {rest : List Oper} {o : Oper} {a : Act} {Q : Exit → Act → World → Prop} (hgd : o.guard = none) (x : Operand) (ho : o.op = .convert 9 22 x) (s : ByteArray) (hx : a.eval x = .string s) (hs : s.size ≤ 1000000)
    (h : ∀ c w', (∀ B, Rds B w' .u8 (some ⟨w.heap.size, 0, none⟩) s.size c (numsL s)) → Below w.heap.size w w' → wpList Try.prog ops Q rest (a.put o.dst (.slice (some ⟨w.heap.size, 0, none⟩) s.size c)) w') : wpList Try.prog ops Q (o :: rest) a w := by
  obtain ⟨c, w', e, h1, h2⟩ := run_str_bytes w s hs
  refine wp_op hgd (v := .slice (some ⟨w.heap.size, 0, none⟩) s.size c) ?_ (h c w' h1 h2)
  unfold execOp
  simp only [ho, hx, Sem.run_bind, e, Result.andThen_ok, Sem.run_pure]

theorem textT_range {T : List Nd} {b : ByteArray} (h : T.length ≤ 65536) : 0 ≤ (textT T b).2 ∧ (textT T b).2 ≤ 65536 := by
  unfold textT
  split
  · unfold addT
    split
    · rename_i i hi
      simp only [show ¬((1 : Int) = 2) by decide, if_false] at hi
      have := lookT_some hi
      have := (List.getElem?_eq_some_iff.1 this).1
      simp; omega
    · split <;> simp; omega
  · simp
def ctxT (T : List Nd) (c : Int) : List Nd × Int := if c = 0 then textT T ByteArray.empty else (T, c)
def deriveT (T : List Nd) (s : Int) (l : ByteArray) (c : Int) : List Nd × Int := makeT (textT (ctxT T c).1 l).1 6 [s, (textT (ctxT T c).1 l).2, (ctxT T c).2]
def sealT (T : List Nd) (k : Int) (hd : ByteArray) (c : Int) : List Nd × Int := makeT (textT T hd).1 10 [k, (textT T hd).2, c]
def BigI (x : Int) : Prop := -9223372036854775808 ≤ x ∧ x ≤ 9223372036854775807

theorem tabPost_next {B tb : Nat} {w w1 : World} {r : List Nd × Int} {e : Ending} {w' : World} (hf : Frm tabO B w w1) (p : TabPost B tb w1 r e w') : TabPost B tb w r e w' := ⟨p.1, p.2.1, hf.trans p.2.2⟩
set_option maxHeartbeats 1600000 in
set_option maxRecDepth 100000 in
theorem derive_any {B tb : Nat} {T : List Nd} (s : Int) (l : ByteArray) (c : Int) (w : World) (ht : IsTab B w tb T) (hs : BigI s) (hc : BigI c) (hl : l.size ≤ 1000000) :
    Calls Try.prog 68 #[.pointer (some ⟨tb, 0, none⟩), .int .i64 s, .string l, .int .i64 c] w (TabPost B tb w (deriveT T s l c)) := by
  have HT := Lib.hid ht
  clear ht
  obtain ⟨s0, s1⟩ := hs
  obtain ⟨c0, c1⟩ := hc
  go_enter Try.func68, Try.ntmps68
  have fin : Hid (∀ w1 T1 c', IsTab B w1 tb T1 → Frm tabO B w w1 → BigI c' → ctxT T c = (T1, c') → ∀ w2 w3 e, Below w1.heap.size w1 w2 → TabPost B tb w2 (textT T1 l) e w3 → True) := fun _ _ _ _ _ _ _ _ _ _ _ _ => trivial
  clear fin
  by_cases hz : c = 0
  · subst hz
    go_wp2_with fail
    refine (text_any none 0 0 [] w HT.out (Rds.nil 0 _ _)).mono ?_
    rintro e w1 p1
    obtain ⟨⟨T1, c'⟩, he1⟩ : ∃ r, textT T ByteArray.empty = r := ⟨_, rfl⟩
    obtain ⟨rfl, ht1, hf1⟩ := p1.intro (show textT T (strOfNums []) = (T1, c') from he1)
    have hr1 := textT_range (b := ByteArray.empty) HT.out.1.len
    rw [he1] at hr1
    simp only at hr1
    have HT1 := Lib.hid ht1
    have HF1 := Lib.hid hf1
    have HE1 : Hid (ctxT T 0 = (T1, c')) := he1
    clear p1 he1 ht1 hf1
    go_wp2_with ((with_reducible show wpList _ _ _ (Oper.mk _ (Op.convert 9 22 _) _ _ _ _ :: _) _ _); refine wp_str_bytes rfl _ rfl l rfl hl ?_; intro cc w2 hr2 hb2)
    have HT2 := Lib.hid (HT1.out.below hb2)
    have HF2 := Lib.hid (HF1.out.trans (.of_below hb2))
    have hr2' := Lib.hid (hr2 0)
    clear hr2 hb2 HT1 HF1
    refine (text_any _ _ _ _ w2 HT2.out hr2'.out).mono ?_
    rintro e w3 p3
    rw [str_numsL] at p3
    obtain ⟨⟨T3, h3⟩, he3⟩ : ∃ r, textT T1 l = r := ⟨_, rfl⟩
    obtain ⟨rfl, ht3, hf3⟩ := p3.intro he3
    have hr3 := textT_range (b := l) HT2.out.1.len
    rw [he3] at hr3
    simp only at hr3
    have HT3 := Lib.hid ht3
    have HF3 := Lib.hid (HF2.out.trans hf3)
    have HE3 := Lib.hid he3
    clear p3 he3 ht3 hf3 HT2 HF2 hr2'
    go_wp2_with fail
    refine (make_lit 6 [s, h3, c'] w3 HT3.out rfl (by simp [I64]; omega) (by simp) _ rfl ?_ 3 rfl).mono ?_
    · decide
    rintro e w4 p4
    have P4 := Lib.hid (tabPost_next HF3.out p4)
    obtain ⟨rfl, -, -⟩ := p4
    go_wp2_with fail
    go_ret
    have := P4.out
    unfold deriveT
    rw [HE1.out, HE3.out]
    exact this
  · have hz' : (c == 0) = false := by simp [hz]
    have HE1 : Hid (ctxT T c = (T, c)) := if_neg hz
    have HF0 := Lib.hid (Frm.refl tabO B w)
    clear hz
    go_wp2_with ((with_reducible show wpList _ _ _ (Oper.mk _ (Op.convert 9 22 _) _ _ _ _ :: _) _ _); refine wp_str_bytes rfl _ rfl l rfl hl ?_; intro cc w2 hr2 hb2)
    have HT2 := Lib.hid (HT.out.below hb2)
    have HF2 := Lib.hid (HF0.out.trans (.of_below hb2))
    have hr2' := Lib.hid (hr2 0)
    clear hr2 hb2 HT HF0
    refine (text_any _ _ _ _ w2 HT2.out hr2'.out).mono ?_
    rintro e w3 p3
    rw [str_numsL] at p3
    obtain ⟨⟨T3, h3⟩, he3⟩ : ∃ r, textT T l = r := ⟨_, rfl⟩
    obtain ⟨rfl, ht3, hf3⟩ := p3.intro he3
    have hr3 := textT_range (b := l) HT2.out.1.len
    rw [he3] at hr3
    simp only at hr3
    have HT3 := Lib.hid ht3
    have HF3 := Lib.hid (HF2.out.trans hf3)
    have HE3 := Lib.hid he3
    clear p3 he3 ht3 hf3 HT2 HF2 hr2'
    go_wp2_with fail
    refine (make_lit 6 [s, h3, c] w3 HT3.out rfl (by simp [I64]; omega) (by simp) _ rfl ?_ 3 rfl).mono ?_
    · decide
    rintro e w4 p4
    have P4 := Lib.hid (tabPost_next HF3.out p4)
    obtain ⟨rfl, -, -⟩ := p4
    go_wp2_with fail
    go_ret
    have := P4.out
    unfold deriveT
    rw [HE1.out, HE3.out]
    exact this
end Go.Proofs.Ytomopjpfdmpgpaa
