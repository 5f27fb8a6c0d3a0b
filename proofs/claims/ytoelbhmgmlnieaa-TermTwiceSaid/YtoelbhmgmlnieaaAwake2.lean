/- What shibbolethlaw02.awake does. No condition. -/
import Derived.Test.YtoelbhmgmlnieaaMake
set_option linter.unusedVariables false
set_option linter.unusedSimpArgs false
namespace Go.Proofs.Ytoelbhmgmlnieaa
open Go Go.RowKit Go.WideMaps

def nS : Nd := ⟨2, ByteArray.empty, []⟩
def nP (x : Int) : Nd := ⟨7, ByteArray.empty, [x]⟩
def nK (x y : Int) : Nd := ⟨8, ByteArray.empty, [x, y]⟩
theorem aw1 : secretT [] = ([nS], 1) := by decide
theorem aw2 : secretT [nS] = ([nS, nS], 2) := by decide
theorem aw3 : makeT [nS, nS] 7 [1] = ([nS, nS, nP 1], 3) := by decide
theorem aw4 : makeT [nS, nS, nP 1] 7 [2] = ([nS, nS, nP 1, nP 2], 4) := by decide
theorem aw5 : makeT [nS, nS, nP 1, nP 2] 8 [1, 4] = ([nS, nS, nP 1, nP 2, nK 1 2], 5) := by decide
theorem aw6 : makeT [nS, nS, nP 1, nP 2, nK 1 2] 8 [2, 3] = ([nS, nS, nP 1, nP 2, nK 1 2], 5) := by decide

/-- What is kept of a call that turns the table. -/
theorem TabPost.intro {B tb : Nat} {w w' : World} {T : List Nd} {h : Int} {r : List Nd × Int} {e : Ending} (hr : r = (T, h)) (p : TabPost B tb w r e w') : e = .returned (.int .i64 h) ∧ IsTab B w' tb T ∧ Frm tabO B w w' := by
  subst hr; exact p
theorem tabPost_after {B tb : Nat} {w w1 : World} {r : List Nd × Int} {e : Ending} {w' : World} (hb : Below w.heap.size w w1) (p : TabPost B tb w1 r e w') : TabPost B tb w r e w' := ⟨p.1, p.2.1, (Frm.of_below hb).trans p.2.2⟩
theorem make_lit {B tb g t : Nat} {T : List Nd} (kind : Int) (xs : List Int) (w : World) (ht : IsTab B w tb T) (hg : w.heap.size = g) (hx : I64 xs) (hn : xs.length ≤ 1000000) (cs : Array Value) (hc : cs = (xs.map (Value.int .i64)).toArray) (hs : spT t = false) (n : Nat) (hl : xs.length = n) :
    Calls Try.prog 41 #[.pointer (some ⟨tb, 0, none⟩), .int .i64 kind, .slice (some ⟨g, 0, none⟩) n n] (w.alloc (.cells cs t)) (TabPost B tb w (makeT T kind xs)) := by
  subst hg hc hl
  exact (make_any kind _ _ _ xs _ (ht.below (below_new _)) ((OwnI.fresh (B := 0) (Nat.zero_le _) hs (by omega)).rds (B' := 0)) hx hn).mono fun e w' p => tabPost_after (below_new _) p

def AwakePost (w : World) (e : Ending) (w' : World) : Prop := e = .returned (.bool true) ∧ Below w.heap.size w w'
set_option maxHeartbeats 1600000 in
set_option maxRecDepth 100000 in
theorem awake02_any (w : World) : Calls Try.prog 42 #[] w (AwakePost w) := by
  go_enter Try.func42, Try.ntmps42
  go_wp2_with fail
  refine (new_any w).mono ?_
  rintro e w1 ⟨tb, rfl, ht1, hb1⟩
  have HT1 := Lib.hid ht1
  have HF1 := Lib.hid (Frm.of_below (C := tabO) (B := w.heap.size) hb1)
  clear ht1 hb1
  go_wp2_with fail
  refine (secret_any w1 HT1.out).mono ?_
  rintro e w2 p2
  obtain ⟨rfl, ht2, hf2⟩ := p2.intro aw1
  have HT2 := Lib.hid ht2
  have HF2 := Lib.hid (HF1.out.trans hf2)
  clear p2 ht2 hf2 HF1 HT1
  go_wp2_with fail
  refine (secret_any w2 HT2.out).mono ?_
  rintro e w3 p3
  obtain ⟨rfl, ht3, hf3⟩ := p3.intro aw2
  have HT3 := Lib.hid ht3
  have HF3 := Lib.hid (HF2.out.trans hf3)
  clear p3 ht3 hf3 HF2 HT2
  go_wp2_with fail
  refine (make_lit 7 [1] w3 HT3.out rfl (by simp [I64]) (by decide) _ rfl ?_ 1 rfl).mono ?_
  · decide
  rintro e w4 p4
  obtain ⟨rfl, ht4, hf4⟩ := p4.intro aw3
  have HT4 := Lib.hid ht4
  have HF4 := Lib.hid (HF3.out.trans hf4)
  clear p4 ht4 hf4 HF3 HT3
  go_wp2_with fail
  refine (make_lit 7 [2] w4 HT4.out rfl (by simp [I64]) (by decide) _ rfl ?_ 1 rfl).mono ?_
  · decide
  rintro e w5 p5
  obtain ⟨rfl, ht5, hf5⟩ := p5.intro aw4
  have HT5 := Lib.hid ht5
  have HF5 := Lib.hid (HF4.out.trans hf5)
  clear p5 ht5 hf5 HF4 HT4
  go_wp2_with fail
  refine (make_lit 8 [1, 4] w5 HT5.out rfl (by simp [I64]) (by decide) _ rfl ?_ 2 rfl).mono ?_
  · decide
  rintro e w6 p6
  obtain ⟨rfl, ht6, hf6⟩ := p6.intro aw5
  have HT6 := Lib.hid ht6
  have HF6 := Lib.hid (HF5.out.trans hf6)
  clear p6 ht6 hf6 HF5 HT5
  go_wp2_with fail
  refine (make_lit 8 [2, 3] w6 HT6.out rfl (by simp [I64]) (by decide) _ rfl ?_ 2 rfl).mono ?_
  · decide
  rintro e w7 p7
  obtain ⟨rfl, ht7, hf7⟩ := p7.intro aw6
  have HT7 := Lib.hid ht7
  have HF7 := Lib.hid (HF6.out.trans hf7)
  clear p7 ht7 hf7 HF6 HT6
  go_wp2_with fail
  refine (size_any w7 HT7.out).mono ?_
  rintro e w8 ⟨rfl, rfl⟩
  go_wp2_with fail
  go_ret
  exact ⟨rfl, HF7.out.below (Nat.le_refl _)⟩
end Go.Proofs.Ytoelbhmgmlnieaa
