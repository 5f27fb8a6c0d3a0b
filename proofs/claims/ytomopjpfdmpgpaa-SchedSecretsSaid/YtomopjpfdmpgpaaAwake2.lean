/- What shibbolethlaw02.awake does. No condition. -/
import Derived.Test.YtomopjpfdmpgpaaMake
set_option linter.unusedVariables false
set_option linter.unusedSimpArgs false
namespace Go.Proofs.Ytomopjpfdmpgpaa
open Go Go.RowKit Go.WideMaps

def nS : Nd := ⟨2, ByteArray.empty, []⟩
def nP (x : Int) : Nd := ⟨7, ByteArray.empty, [x]⟩
def nK (x y : Int) : Nd := ⟨8, ByteArray.empty, [x, y]⟩
theorem aw1 : secretT [] = ([nS], 1) := by decide
theorem aw2 : secretT [nS] = ([nS, nS], 2) := by decide
theorem aw3 : makeT [nS, nS] 7 [1] = ([nS, nS, nP 1], 3) := by decide
theorem aw4 : makeT [nS, nS, nP 1] 7 [2] = ([nS, nS, nP 1, nP 2], 4) := by decide
theorem aw5 : makeT [nS, nS, nP 1, nP 2] 8 [1, 4] = ([nS, nS, nP 1, nP 2, nK 1 2], 5) := by decide
theorem aw6 : makeT [nS, nS, nP 1, nP 2, nK 1 2] 8 [2, 3] = ([nS, nS, nP 1, nP 2, nK 1 2], 5) := by decide

/-- What is kept of a call that turns the table. -/
theorem TabPost.intro {B tb : Nat} {w w' : World} {T : List Nd} {h : Int} {r : List Nd × Int} {e : Ending} (hr : r = (T, h)) (p : TabPost B tb w r e w') : e = .returned (.int .i64 h) ∧ IsTab B w' tb T ∧ Frm tabO B w w' := by
  subst hr; exact p
theorem tabPost_after {B tb : Nat} {w w1 : World} {r : List Nd × Int} {e : Ending} {w' : World} (hb : Below w.heap.size w w1) (p : TabPost B tb w1 r e w') : TabPost B tb w r e w' := ⟨p.1, p.2.1, (Frm.of_below hb).trans p.2.2⟩
theorem make_lit {B tb g t : Nat} {T : List Nd} (kind : Int) (xs : List Int) (w : World) (ht : IsTab B w tb T) (hg : w.heap.size = g) (hx : I64 xs) (hn : xs.length ≤ 1000000) (cs : Array Value) (hc : cs = (xs.map (Value.int .i64)).toArray) (hs : spT t = false) (n : Nat) (hl : xs.length = n) :
    Calls Try.prog 21 #[.pointer (some ⟨tb, 0, none⟩), .int .i64 kind, .slice (some ⟨g, 0, none⟩) n n] (w.alloc (.cells cs t)) (TabPost B tb w (makeT T kind xs)) := by
  subst hg hc hl
  exact (make_any kind _ _ _ xs _ (ht.below (below_new _)) ((OwnI.fresh (B := 0) (Nat.zero_le _) hs (by omega)).rds (B' := 0)) hx hn).mono fun e w' p => tabPost_after (below_new _) p

def AwakePost (w : World) (e : Ending) (w' : World) : Prop := e = .returned (.bool true) ∧ Below w.heap.size w w'
end Go.Proofs.Ytomopjpfdmpgpaa
