/-
  No cell of these rows narrows 'for every input' (looked for: loops, veiled, ifaces, maps, wideKeys, modest, calm, conditions, laid).
  DERIVED. THE GIVEN ROWS OF THIS SEAT. 6 by the template 'for every input the law returns true; each argument reads behind the call as it read before'; 0 by the template 'total and deterministic' (their statements: YtmaedahleenlgaaTotals.lean).
  GIVEN WITH THE SEED: the statements are not yours to turn. If you find one false, say at which input.
  Laid BY PROGRAM, IN A SANDBOX (cutbox-rows.mjs): the forced cells as the released guide's own fill.sh prints them over the translation 86a42e0deea1020d… (all of the seat's roots in one cut). By AI agents, Wed Nov 11 2026. No macro, syntax, notation, axiom, sorry.
-/
import Derived.Test.YtmaedahleenlgaaChecked
import GoSem.Claim
import GoSem.ClaimJoined
import GoSem.ClaimMapViews
import Derived.JoinedTies
import Derived.KernelRfl
namespace Go.Proofs.Ytmaedahleenlgaa
/- THE CELL 'sum', in the pinned program and in every row, IS THE sha256 OF THE DUMP (.gsa) THAT YtmaedahleenlgaaProg.lean LOADS. Nothing in Lean hashes anything: it is a label: what it is worth is what the hold of that sum in a sandbox is worth. -/
noncomputable def Try.pinned : Pinned := { name := "ytmaedahleenlgaa", sum := "86a42e0deea1020db9f9ecc9dc82990f79f3429af8cd479a5a880cc9e20369e0", checked := Try.checked }
namespace Rows
def none {H : Type} : Left H := { results := [], args := [] }

/-- 'shibbolethlaw03.KnowLearns': WHATEVER THE INPUT: true; the input reads as it did. -/
def knowLearnsSpec : ChangeSpec := { name := "knowLearns", fn := fun _ => fun
  | [d1, d2] => { results := [.lit (.bool true)], args := [d1, d2] }
  | _ => none }
def knowLearnsRow : OpenClaim := { program := "ytmaedahleenlgaa", sum := "86a42e0deea1020db9f9ecc9dc82990f79f3429af8cd479a5a880cc9e20369e0", func := "shibboleth/shibbolethlaw03.KnowLearns", spec := "knowLearns", unfollowed := true, recurses := true, plainKeys := false, apart := false }
def KnowLearnsSaid : Prop := knowLearnsRow.holds Try.pinned (OpenSpec.ofChange knowLearnsSpec)

/-- ITS FALSE NEIGHBOUR: 'it returns false'. Refute it at one input. -/
def knowLearnsWrong : ChangeSpec := { name := "knowLearns", fn := fun _ => fun
  | [d1, d2] => { results := [.lit (.bool false)], args := [d1, d2] }
  | _ => none }
def KnowLearnsWrongFalsely : Prop := knowLearnsRow.holds Try.pinned (OpenSpec.ofChange knowLearnsWrong)

/-- 'shibbolethlaw03.KnowSecrets': WHATEVER THE INPUT: true; the input reads as it did. -/
def knowSecretsSpec : ChangeSpec := { name := "knowSecrets", fn := fun _ => fun
  | [d] => { results := [.lit (.bool true)], args := [d] }
  | _ => none }
def knowSecretsRow : OpenClaim := { program := "ytmaedahleenlgaa", sum := "86a42e0deea1020db9f9ecc9dc82990f79f3429af8cd479a5a880cc9e20369e0", func := "shibboleth/shibbolethlaw03.KnowSecrets", spec := "knowSecrets", unfollowed := true, recurses := true, plainKeys := false, apart := false }
def KnowSecretsSaid : Prop := knowSecretsRow.holds Try.pinned (OpenSpec.ofChange knowSecretsSpec)

/-- ITS FALSE NEIGHBOUR: 'it returns false'. Refute it at one input. -/
def knowSecretsWrong : ChangeSpec := { name := "knowSecrets", fn := fun _ => fun
  | [d] => { results := [.lit (.bool false)], args := [d] }
  | _ => none }
def KnowSecretsWrongFalsely : Prop := knowSecretsRow.holds Try.pinned (OpenSpec.ofChange knowSecretsWrong)

/-- 'shibbolethlaw03.KnowFinds': WHATEVER THE INPUT: true; the input reads as it did. -/
def knowFindsSpec : ChangeSpec := { name := "knowFinds", fn := fun _ => fun
  | [d1, d2] => { results := [.lit (.bool true)], args := [d1, d2] }
  | _ => none }
def knowFindsRow : OpenClaim := { program := "ytmaedahleenlgaa", sum := "86a42e0deea1020db9f9ecc9dc82990f79f3429af8cd479a5a880cc9e20369e0", func := "shibboleth/shibbolethlaw03.KnowFinds", spec := "knowFinds", unfollowed := true, recurses := true, plainKeys := false, apart := false }
def KnowFindsSaid : Prop := knowFindsRow.holds Try.pinned (OpenSpec.ofChange knowFindsSpec)

/-- ITS FALSE NEIGHBOUR: 'it returns false'. Refute it at one input. -/
def knowFindsWrong : ChangeSpec := { name := "knowFinds", fn := fun _ => fun
  | [d1, d2] => { results := [.lit (.bool false)], args := [d1, d2] }
  | _ => none }
def KnowFindsWrongFalsely : Prop := knowFindsRow.holds Try.pinned (OpenSpec.ofChange knowFindsWrong)

/-- 'shibbolethlaw03.KnowMore': WHATEVER THE INPUT: true; the input reads as it did. -/
def knowMoreSpec : ChangeSpec := { name := "knowMore", fn := fun _ => fun
  | [d1, d2, d3] => { results := [.lit (.bool true)], args := [d1, d2, d3] }
  | _ => none }
def knowMoreRow : OpenClaim := { program := "ytmaedahleenlgaa", sum := "86a42e0deea1020db9f9ecc9dc82990f79f3429af8cd479a5a880cc9e20369e0", func := "shibboleth/shibbolethlaw03.KnowMore", spec := "knowMore", unfollowed := true, recurses := true, plainKeys := false, apart := false }
def KnowMoreSaid : Prop := knowMoreRow.holds Try.pinned (OpenSpec.ofChange knowMoreSpec)

/-- ITS FALSE NEIGHBOUR: 'it returns false'. Refute it at one input. -/
def knowMoreWrong : ChangeSpec := { name := "knowMore", fn := fun _ => fun
  | [d1, d2, d3] => { results := [.lit (.bool false)], args := [d1, d2, d3] }
  | _ => none }
def KnowMoreWrongFalsely : Prop := knowMoreRow.holds Try.pinned (OpenSpec.ofChange knowMoreWrong)

/-- 'shibbolethlaw03.KnowAgain': WHATEVER THE INPUT: true; the input reads as it did. -/
def knowAgainSpec : ChangeSpec := { name := "knowAgain", fn := fun _ => fun
  | [d1, d2] => { results := [.lit (.bool true)], args := [d1, d2] }
  | _ => none }
def knowAgainRow : OpenClaim := { program := "ytmaedahleenlgaa", sum := "86a42e0deea1020db9f9ecc9dc82990f79f3429af8cd479a5a880cc9e20369e0", func := "shibboleth/shibbolethlaw03.KnowAgain", spec := "knowAgain", unfollowed := true, recurses := true, plainKeys := false, apart := false }
def KnowAgainSaid : Prop := knowAgainRow.holds Try.pinned (OpenSpec.ofChange knowAgainSpec)

/-- ITS FALSE NEIGHBOUR: 'it returns false'. Refute it at one input. -/
def knowAgainWrong : ChangeSpec := { name := "knowAgain", fn := fun _ => fun
  | [d1, d2] => { results := [.lit (.bool false)], args := [d1, d2] }
  | _ => none }
def KnowAgainWrongFalsely : Prop := knowAgainRow.holds Try.pinned (OpenSpec.ofChange knowAgainWrong)

/-- 'shibbolethlaw03.KnowNone': WHATEVER THE INPUT: true; the input reads as it did. -/
def knowNoneSpec : ChangeSpec := { name := "knowNone", fn := fun _ => fun
  | [d1, d2] => { results := [.lit (.bool true)], args := [d1, d2] }
  | _ => none }
def knowNoneRow : OpenClaim := { program := "ytmaedahleenlgaa", sum := "86a42e0deea1020db9f9ecc9dc82990f79f3429af8cd479a5a880cc9e20369e0", func := "shibboleth/shibbolethlaw03.KnowNone", spec := "knowNone", unfollowed := true, recurses := true, plainKeys := false, apart := false }
def KnowNoneSaid : Prop := knowNoneRow.holds Try.pinned (OpenSpec.ofChange knowNoneSpec)

/-- ITS FALSE NEIGHBOUR: 'it returns false'. Refute it at one input. -/
def knowNoneWrong : ChangeSpec := { name := "knowNone", fn := fun _ => fun
  | [d1, d2] => { results := [.lit (.bool false)], args := [d1, d2] }
  | _ => none }
def KnowNoneWrongFalsely : Prop := knowNoneRow.holds Try.pinned (OpenSpec.ofChange knowNoneWrong)

/- THE SECOND FORM. 'bulk': how many values and letters a reading holds, each counted each time it is reached (what is shared counts as often as it is met; a slice's spare places count too). A statement '..UptoSaid' is the law's where the arguments, and the package variables that the reading takes, are together of bulk at most 1048576: NARROWER than '..Said'. Prove '..Said' where nothing that the law and all that it calls make is longer than what came in: it says more and counts as full. Else prove '..UptoSaid'. A law counts once. -/
mutual
def uptoBulk {H : Type} : DataW H → Nat
  | .lit (.string bytes) => bytes.length + 1
  | .lit _ => 1
  | .nil => 1
  | .ptr d => uptoBulk d + 1
  | .slice elems spare => uptoBulkAll elems + uptoBulkAll spare + 1
  | .agg parts => uptoBulkAll parts + 1
  | .iface _ d => uptoBulk d + 1
  | .map entries => uptoBulkEntries entries + 1
  | .held _ => 1
def uptoBulkAll {H : Type} : List (DataW H) → Nat
  | [] => 0
  | d :: r => uptoBulk d + uptoBulkAll r
def uptoBulkEntries {H : Type} : List (Lit × DataW H) → Nat
  | [] => 0
  | x :: r => uptoBulkEntry x + uptoBulkEntries r
def uptoBulkEntry {H : Type} : Lit × DataW H → Nat
  | (.string bytes, d) => bytes.length + uptoBulk d + 1
  | (_, d) => uptoBulk d + 1
 end
def uptoSmall : (H : Type) → List (DataW H) → Bool := fun _ ds => decide (uptoBulkAll ds ≤ 1048576)
def OpenSpec.upto (s : _root_.Go.ChangeSpec) : _root_.Go.OpenSpec := { _root_.Go.OpenSpec.ofChange s with cond := some uptoSmall }

/-- 'shibbolethlaw03.KnowLearns', WHERE WHAT IT READS IS OF BULK AT MOST 1048576: true; the input reads as it did. -/
def knowLearnsUptoRow : OpenClaim := { program := "ytmaedahleenlgaa", sum := "86a42e0deea1020db9f9ecc9dc82990f79f3429af8cd479a5a880cc9e20369e0", func := "shibboleth/shibbolethlaw03.KnowLearns", spec := "knowLearns", unfollowed := true, recurses := true, plainKeys := false, apart := false, narrowed := true }
def KnowLearnsUptoSaid : Prop := knowLearnsUptoRow.holds Try.pinned (OpenSpec.upto knowLearnsSpec)

/-- 'shibbolethlaw03.KnowSecrets', WHERE WHAT IT READS IS OF BULK AT MOST 1048576: true; the input reads as it did. -/
def knowSecretsUptoRow : OpenClaim := { program := "ytmaedahleenlgaa", sum := "86a42e0deea1020db9f9ecc9dc82990f79f3429af8cd479a5a880cc9e20369e0", func := "shibboleth/shibbolethlaw03.KnowSecrets", spec := "knowSecrets", unfollowed := true, recurses := true, plainKeys := false, apart := false, narrowed := true }
def KnowSecretsUptoSaid : Prop := knowSecretsUptoRow.holds Try.pinned (OpenSpec.upto knowSecretsSpec)

/-- 'shibbolethlaw03.KnowFinds', WHERE WHAT IT READS IS OF BULK AT MOST 1048576: true; the input reads as it did. -/
def knowFindsUptoRow : OpenClaim := { program := "ytmaedahleenlgaa", sum := "86a42e0deea1020db9f9ecc9dc82990f79f3429af8cd479a5a880cc9e20369e0", func := "shibboleth/shibbolethlaw03.KnowFinds", spec := "knowFinds", unfollowed := true, recurses := true, plainKeys := false, apart := false, narrowed := true }
def KnowFindsUptoSaid : Prop := knowFindsUptoRow.holds Try.pinned (OpenSpec.upto knowFindsSpec)

/-- 'shibbolethlaw03.KnowMore', WHERE WHAT IT READS IS OF BULK AT MOST 1048576: true; the input reads as it did. -/
def knowMoreUptoRow : OpenClaim := { program := "ytmaedahleenlgaa", sum := "86a42e0deea1020db9f9ecc9dc82990f79f3429af8cd479a5a880cc9e20369e0", func := "shibboleth/shibbolethlaw03.KnowMore", spec := "knowMore", unfollowed := true, recurses := true, plainKeys := false, apart := false, narrowed := true }
def KnowMoreUptoSaid : Prop := knowMoreUptoRow.holds Try.pinned (OpenSpec.upto knowMoreSpec)

/-- 'shibbolethlaw03.KnowAgain', WHERE WHAT IT READS IS OF BULK AT MOST 1048576: true; the input reads as it did. -/
def knowAgainUptoRow : OpenClaim := { program := "ytmaedahleenlgaa", sum := "86a42e0deea1020db9f9ecc9dc82990f79f3429af8cd479a5a880cc9e20369e0", func := "shibboleth/shibbolethlaw03.KnowAgain", spec := "knowAgain", unfollowed := true, recurses := true, plainKeys := false, apart := false, narrowed := true }
def KnowAgainUptoSaid : Prop := knowAgainUptoRow.holds Try.pinned (OpenSpec.upto knowAgainSpec)

/-- 'shibbolethlaw03.KnowNone', WHERE WHAT IT READS IS OF BULK AT MOST 1048576: true; the input reads as it did. -/
def knowNoneUptoRow : OpenClaim := { program := "ytmaedahleenlgaa", sum := "86a42e0deea1020db9f9ecc9dc82990f79f3429af8cd479a5a880cc9e20369e0", func := "shibboleth/shibbolethlaw03.KnowNone", spec := "knowNone", unfollowed := true, recurses := true, plainKeys := false, apart := false, narrowed := true }
def KnowNoneUptoSaid : Prop := knowNoneUptoRow.holds Try.pinned (OpenSpec.upto knowNoneSpec)

end Rows
end Go.Proofs.Ytmaedahleenlgaa
