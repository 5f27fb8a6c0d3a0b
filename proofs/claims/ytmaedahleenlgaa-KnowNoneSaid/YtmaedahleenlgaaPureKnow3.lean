/- Plain: what follows, by running the passes. No condition. -/
import Derived.Test.YtmaedahleenlgaaKnow10
set_option linter.unusedVariables false
set_option linter.unusedSimpArgs false
namespace Go.Proofs.Ytmaedahleenlgaa
open Go Go.RowKit

def runK (T : List Nd) : Nat → List Bool → List Bool → KS
  | 0, F, C => ⟨F, C, true⟩
  | n + 1, F, C => if (onePass T F C).ch then runK T n (onePass T F C).F (onePass T F C).C else onePass T F C
theorem runK_done {T : List Nd} {S : Int → Prop} (hw : WfT T) : ∀ (n : Nat) {F C : List Bool} (hl : LenK T ⟨F, C, false⟩) (hs : SoundK T S ⟨F, C, false⟩) (hb : ∀ h n, getT T h = some n → S h → bget F h = true) (hc : (runK T n F C).ch = false), DoneK T S (runK T n F C).F (runK T n F C).C
  | 0, F, C, _, _, _, hc => by cases hc
  | n + 1, F, C, hl, hs, hb, hc => by
    have h1 := onePass_sound hw hl hs
    unfold runK at hc ⊢
    cases e : (onePass T F C).ch with
    | true =>
      rw [e] at hc
      simp only [if_true] at hc ⊢
      exact runK_done hw n ⟨h1.2.1.F, h1.2.1.C⟩ h1.1 (fun h m a b => h1.2.2.F h (hb h m a b)) hc
    | false => 
      simp only [Bool.false_eq_true, if_false]
      exact onePass_done hw hl hs hb e
/-- What a list says, in rows. -/
def rowsOf (T : List Nd) (l : List Int) : List Bool := learnL T.length (growL [] T.length) l
theorem runK_of {T : List Nd} (hw : WfT T) (l : List Int) (n : Nat) (hc : (runK T n (rowsOf T l) (growL [] T.length)).ch = false) : DoneK T (inT T l) (runK T n (rowsOf T l) (growL [] T.length)).F (runK T n (rowsOf T l) (growL [] T.length)).C := by
  have h0 := (MOk.nil hw).growL
  have hg : (growL [] T.length).length = T.length + 1 := growL_len (by simp)
  have h1 := (h0.learns l hg).iff (S' := inT T l) fun x => ⟨fun q => q.elim (fun f => f.elim) id, .inr⟩
  exact runK_done hw n ⟨by show (learnL _ _ _).length = _; rw [learnL_len]; exact hg, hg⟩ h1.sd (fun h _ _ q => h1.bs h q) hc
theorem runK_can {T : List Nd} (hw : WfT T) (l : List Int) (n : Nat) (h : Int) (b : Bool) (h1 : 1 ≤ h) (hc : (runK T n (rowsOf T l) (growL [] T.length)).ch = false ∧ bget (runK T n (rowsOf T l) (growL [] T.length)).C h = b) : knB T (inT T l) false h = b := by
  have hd := runK_of hw l n hc.1
  rw [← hc.2]
  exact (knB_of (hd.can h h1)).symm
/-- The table of the law's own table of facts. -/
def aT : List Nd := [⟨2, ByteArray.empty, []⟩, ⟨2, ByteArray.empty, []⟩, ⟨7, ByteArray.empty, [2]⟩, ⟨8, ByteArray.empty, [1, 2]⟩, ⟨1, ByteArray.empty, []⟩, ⟨10, ByteArray.empty, [4, 5, 2]⟩]
set_option maxRecDepth 100000
theorem aT_runs : (runK aT 4 (rowsOf aT [1, 3]) (growL [] aT.length)).ch = false ∧ bget (runK aT 4 (rowsOf aT [1, 3]) (growL [] aT.length)).C 4 = true := by decide
theorem aT_runs2 : (runK aT 4 (rowsOf aT [3]) (growL [] aT.length)).ch = false ∧ bget (runK aT 4 (rowsOf aT [3]) (growL [] aT.length)).C 4 = false := by decide
theorem aT_runs3 : (runK aT 4 (rowsOf aT [6]) (growL [] aT.length)).ch = false ∧ bget (runK aT 4 (rowsOf aT [6]) (growL [] aT.length)).C 2 = false := by decide
theorem aT_runs4 : (runK aT 4 (rowsOf aT [1, 3, 6]) (growL [] aT.length)).ch = false ∧ bget (runK aT 4 (rowsOf aT [1, 3, 6]) (growL [] aT.length)).C 2 = true := by decide
end Go.Proofs.Ytmaedahleenlgaa
