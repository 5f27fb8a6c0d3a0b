/- Plain: the bytes of lists and retries (layer 8). No condition. -/
import Derived.Test.YtomopjpfdmpgpaaPureIdeal
set_option linter.unusedVariables false
set_option linter.unusedSimpArgs false
namespace Go.Proofs.Ytomopjpfdmpgpaa
open Go Go.RowKit

/-- May a number be a version? -/
def VerOk (n : Int) : Prop := 1 ≤ n ∧ n ≤ 4294967295
instance (n : Int) : Decidable (VerOk n) := inferInstanceAs (Decidable (_ ∧ _))
/-- A number's four bytes. -/
def bigB (n : Int) : List Int := [n / 16777216 % 256, n / 65536 % 256, n / 256 % 256, n % 256]
theorem bigB_byt (n : Int) : Byt (bigB n) := by
  intro x hx
  simp only [bigB, List.mem_cons, List.not_mem_nil, or_false] at hx
  rcases hx with rfl | rfl | rfl | rfl <;> omega
theorem bigB_len (n : Int) : (bigB n).length = 4 := rfl
/-- A packet's first bytes. -/
def headB (first v : Int) (ts fr : List Int) : List Int := first :: (bigB v ++ (((ts.length : Int) :: ts) ++ ((fr.length : Int) :: fr)))
def NamesOk (ts fr : List Int) : Prop := ts.length ≤ 20 ∧ fr.length ≤ 20
instance (ts fr : List Int) : Decidable (NamesOk ts fr) := inferInstanceAs (Decidable (_ ∧ _))
def bigs (vs : List Int) : List Int := vs.flatMap bigB
theorem bigs_len (vs : List Int) : (bigs vs).length = 4 * vs.length := by
  induction vs with
  | nil => rfl
  | cons v vs ih => simp only [bigs, List.flatMap_cons, List.length_append, bigB_len, List.length_cons] at *; omega
theorem bigs_snoc (vs : List Int) (v : Int) : bigs (vs ++ [v]) = bigs vs ++ bigB v := by simp [bigs]
def ListOk (ts fr vs : List Int) : Prop := NamesOk ts fr ∧ 1 ≤ vs.length ∧ vs.length ≤ 16 ∧ ∀ v ∈ vs, VerOk v
instance (ts fr vs : List Int) : Decidable (ListOk ts fr vs) := inferInstanceAs (Decidable (_ ∧ _))
def listB (ts fr vs : List Int) : List Int := if ListOk ts fr vs then headB 128 0 ts fr ++ bigs vs else []
def BodyOk (ver : Int) (ts fr : List Int) (token : Int) : Prop := NamesOk ts fr ∧ VerOk ver ∧ 1 ≤ token ∧ token ≤ 65536
instance (ver : Int) (ts fr : List Int) (token : Int) : Decidable (BodyOk ver ts fr token) := inferInstanceAs (Decidable (_ ∧ _))
def bodyB (ver : Int) (ts fr : List Int) (token : Int) : List Int := if BodyOk ver ts fr token then headB 240 ver ts fr ++ numB token else []
def retryB (ver : Int) (ts fr : List Int) (token tag : Int) : List Int := if BodyOk ver ts fr token ∧ 1 ≤ tag ∧ tag ≤ 65536 then bodyB ver ts fr token ++ numB tag else []
theorem headB_len (first v : Int) (ts fr : List Int) : (headB first v ts fr).length = 7 + ts.length + fr.length := by
  simp [headB, bigB]; omega
theorem numB_nil {h : Int} : numB h = [] ↔ ¬ (1 ≤ h ∧ h ≤ 65536) := by
  unfold numB
  split <;> simp_all
end Go.Proofs.Ytomopjpfdmpgpaa
