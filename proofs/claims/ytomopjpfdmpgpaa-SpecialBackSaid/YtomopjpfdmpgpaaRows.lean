/-
  No cell of these rows narrows 'for every input' (looked for: loops, veiled, ifaces, maps, wideKeys, modest, calm, conditions, laid).
  DERIVED. THE GIVEN ROWS OF THIS SEAT. 3 by the template 'for every input the law returns true; each argument reads behind the call as it read before'; 0 by the template 'total and deterministic' (their statements: YtomopjpfdmpgpaaTotals.lean).
  GIVEN WITH THE SEED: the statements are not yours to turn. If you find one false, say at which input.
  Laid BY PROGRAM, IN A SANDBOX (cutbox-rows.mjs): the forced cells as the released guide's own fill.sh prints them over the translation 73ff2330134e8ced… (all of the seat's roots in one cut). By AI agents, Wed Nov 11 2026. No macro, syntax, notation, axiom, sorry.
-/
import Derived.Test.YtomopjpfdmpgpaaChecked
import GoSem.Claim
import GoSem.ClaimJoined
import GoSem.ClaimMapViews
import Derived.JoinedTies
import Derived.KernelRfl
namespace Go.Proofs.Ytomopjpfdmpgpaa
/- THE CELL 'sum', in the pinned program and in every row, IS THE sha256 OF THE DUMP (.gsa) THAT YtomopjpfdmpgpaaProg.lean LOADS. Nothing in Lean hashes anything: it is a label: what it is worth is what the hold of that sum in a sandbox is worth. -/
noncomputable def Try.pinned : Pinned := { name := "ytomopjpfdmpgpaa", sum := "73ff2330134e8cede27501eb557bb21931d80f5caa35bde68a4feb178f677c06", checked := Try.checked }
namespace Rows
def none {H : Type} : Left H := { results := [], args := [] }

/-- 'shibbolethlaw08.SpecialReads': WHATEVER THE INPUT: true; the input reads as it did. -/
def specialReadsSpec : ChangeSpec := { name := "specialReads", fn := fun _ => fun
  | [d] => { results := [.lit (.bool true)], args := [d] }
  | _ => none }
def specialReadsRow : OpenClaim := { program := "ytomopjpfdmpgpaa", sum := "73ff2330134e8cede27501eb557bb21931d80f5caa35bde68a4feb178f677c06", func := "shibboleth/shibbolethlaw08.SpecialReads", spec := "specialReads", unfollowed := true, recurses := true, plainKeys := false, apart := false }
def SpecialReadsSaid : Prop := specialReadsRow.holds Try.pinned (OpenSpec.ofChange specialReadsSpec)

/-- ITS FALSE NEIGHBOUR: 'it returns false'. Refute it at one input. -/
def specialReadsWrong : ChangeSpec := { name := "specialReads", fn := fun _ => fun
  | [d] => { results := [.lit (.bool false)], args := [d] }
  | _ => none }
def SpecialReadsWrongFalsely : Prop := specialReadsRow.holds Try.pinned (OpenSpec.ofChange specialReadsWrong)

/-- 'shibbolethlaw08.SpecialBack': WHATEVER THE INPUT: true; the input reads as it did. -/
def specialBackSpec : ChangeSpec := { name := "specialBack", fn := fun _ => fun
  | [d1, d2] => { results := [.lit (.bool true)], args := [d1, d2] }
  | _ => none }
def specialBackRow : OpenClaim := { program := "ytomopjpfdmpgpaa", sum := "73ff2330134e8cede27501eb557bb21931d80f5caa35bde68a4feb178f677c06", func := "shibboleth/shibbolethlaw08.SpecialBack", spec := "specialBack", unfollowed := true, recurses := true, plainKeys := false, apart := false }
def SpecialBackSaid : Prop := specialBackRow.holds Try.pinned (OpenSpec.ofChange specialBackSpec)

/-- ITS FALSE NEIGHBOUR: 'it returns false'. Refute it at one input. -/
def specialBackWrong : ChangeSpec := { name := "specialBack", fn := fun _ => fun
  | [d1, d2] => { results := [.lit (.bool false)], args := [d1, d2] }
  | _ => none }
def SpecialBackWrongFalsely : Prop := specialBackRow.holds Try.pinned (OpenSpec.ofChange specialBackWrong)

/-- 'shibbolethlaw15.SchedSecrets': WHATEVER THE INPUT: true; the input reads as it did. -/
def schedSecretsSpec : ChangeSpec := { name := "schedSecrets", fn := fun _ => fun
  | [d1, d2, d3] => { results := [.lit (.bool true)], args := [d1, d2, d3] }
  | _ => none }
def schedSecretsRow : OpenClaim := { program := "ytomopjpfdmpgpaa", sum := "73ff2330134e8cede27501eb557bb21931d80f5caa35bde68a4feb178f677c06", func := "shibboleth/shibbolethlaw15.SchedSecrets", spec := "schedSecrets", unfollowed := true, recurses := true, plainKeys := false, apart := false }
def SchedSecretsSaid : Prop := schedSecretsRow.holds Try.pinned (OpenSpec.ofChange schedSecretsSpec)

/-- ITS FALSE NEIGHBOUR: 'it returns false'. Refute it at one input. -/
def schedSecretsWrong : ChangeSpec := { name := "schedSecrets", fn := fun _ => fun
  | [d1, d2, d3] => { results := [.lit (.bool false)], args := [d1, d2, d3] }
  | _ => none }
def SchedSecretsWrongFalsely : Prop := schedSecretsRow.holds Try.pinned (OpenSpec.ofChange schedSecretsWrong)

/- THE SECOND FORM. 'bulk': how many values and letters a reading holds, each counted each time it is reached (what is shared counts as often as it is met; a slice's spare places count too). A statement '..UptoSaid' is the law's where the arguments, and the package variables that the reading takes, are together of bulk at most 1048576: NARROWER than '..Said'. Prove '..Said' where nothing that the law and all that it calls make is longer than what came in: it says more and counts as full. Else prove '..UptoSaid'. A law counts once. -/
mutual
def uptoBulk {H : Type} : DataW H → Nat
  | .lit (.string bytes) => bytes.length + 1
  | .lit _ => 1
  | .nil => 1
  | .ptr d => uptoBulk d + 1
  | .slice elems spare => uptoBulkAll elems + uptoBulkAll spare + 1
  | .agg parts => uptoBulkAll parts + 1
  | .iface _ d => uptoBulk d + 1
  | .map entries => uptoBulkEntries entries + 1
  | .held _ => 1
def uptoBulkAll {H : Type} : List (DataW H) → Nat
  | [] => 0
  | d :: r => uptoBulk d + uptoBulkAll r
def uptoBulkEntries {H : Type} : List (Lit × DataW H) → Nat
  | [] => 0
  | x :: r => uptoBulkEntry x + uptoBulkEntries r
def uptoBulkEntry {H : Type} : Lit × DataW H → Nat
  | (.string bytes, d) => bytes.length + uptoBulk d + 1
  | (_, d) => uptoBulk d + 1
 end
def uptoSmall : (H : Type) → List (DataW H) → Bool := fun _ ds => decide (uptoBulkAll ds ≤ 1048576)
def OpenSpec.upto (s : _root_.Go.ChangeSpec) : _root_.Go.OpenSpec := { _root_.Go.OpenSpec.ofChange s with cond := some uptoSmall }

/-- 'shibbolethlaw08.SpecialReads', WHERE WHAT IT READS IS OF BULK AT MOST 1048576: true; the input reads as it did. -/
def specialReadsUptoRow : OpenClaim := { program := "ytomopjpfdmpgpaa", sum := "73ff2330134e8cede27501eb557bb21931d80f5caa35bde68a4feb178f677c06", func := "shibboleth/shibbolethlaw08.SpecialReads", spec := "specialReads", unfollowed := true, recurses := true, plainKeys := false, apart := false, narrowed := true }
def SpecialReadsUptoSaid : Prop := specialReadsUptoRow.holds Try.pinned (OpenSpec.upto specialReadsSpec)

/-- 'shibbolethlaw08.SpecialBack', WHERE WHAT IT READS IS OF BULK AT MOST 1048576: true; the input reads as it did. -/
def specialBackUptoRow : OpenClaim := { program := "ytomopjpfdmpgpaa", sum := "73ff2330134e8cede27501eb557bb21931d80f5caa35bde68a4feb178f677c06", func := "shibboleth/shibbolethlaw08.SpecialBack", spec := "specialBack", unfollowed := true, recurses := true, plainKeys := false, apart := false, narrowed := true }
def SpecialBackUptoSaid : Prop := specialBackUptoRow.holds Try.pinned (OpenSpec.upto specialBackSpec)

/-- 'shibbolethlaw15.SchedSecrets', WHERE WHAT IT READS IS OF BULK AT MOST 1048576: true; the input reads as it did. -/
def schedSecretsUptoRow : OpenClaim := { program := "ytomopjpfdmpgpaa", sum := "73ff2330134e8cede27501eb557bb21931d80f5caa35bde68a4feb178f677c06", func := "shibboleth/shibbolethlaw15.SchedSecrets", spec := "schedSecrets", unfollowed := true, recurses := true, plainKeys := false, apart := false, narrowed := true }
def SchedSecretsUptoSaid : Prop := schedSecretsUptoRow.holds Try.pinned (OpenSpec.upto schedSecretsSpec)

end Rows
end Go.Proofs.Ytomopjpfdmpgpaa
