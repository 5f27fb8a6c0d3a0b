/-
  No cell of these rows narrows 'for every input' (looked for: loops, veiled, ifaces, maps, wideKeys, modest, calm, conditions, laid).
  DERIVED. THE GIVEN ROWS OF THIS SEAT. 12 by the template 'for every input the law returns true; each argument reads behind the call as it read before'; 0 by the template 'total and deterministic' (their statements: YtoelbhmgmlnieaaTotals.lean).
  GIVEN WITH THE SEED: the statements are not yours to turn. If you find one false, say at which input.
  Laid BY PROGRAM, IN A SANDBOX (cutbox-rows.mjs): the forced cells as the released guide's own fill.sh prints them over the translation 9311737bca7e285c… (all of the seat's roots in one cut). By AI agents, Wed Nov 11 2026. No macro, syntax, notation, axiom, sorry.
-/
import Derived.Test.YtoelbhmgmlnieaaChecked
import GoSem.Claim
import GoSem.ClaimJoined
import GoSem.ClaimMapViews
import Derived.JoinedTies
import Derived.KernelRfl
namespace Go.Proofs.Ytoelbhmgmlnieaa
/- THE CELL 'sum', in the pinned program and in every row, IS THE sha256 OF THE DUMP (.gsa) THAT YtoelbhmgmlnieaaProg.lean LOADS. Nothing in Lean hashes anything: it is a label: what it is worth is what the hold of that sum in a sandbox is worth. -/
noncomputable def Try.pinned : Pinned := { name := "ytoelbhmgmlnieaa", sum := "9311737bca7e285cd6a4642c4a5f03b3e8ff4fe0871067123d1bad4352d5ba25", checked := Try.checked }
namespace Rows
def none {H : Type} : Left H := { results := [], args := [] }

/-- 'shibbolethlaw04.IdealBytes': WHATEVER THE INPUT: true; the input reads as it did. -/
def idealBytesSpec : ChangeSpec := { name := "idealBytes", fn := fun _ => fun
  | [d1, d2, d3] => { results := [.lit (.bool true)], args := [d1, d2, d3] }
  | _ => none }
def idealBytesRow : OpenClaim := { program := "ytoelbhmgmlnieaa", sum := "9311737bca7e285cd6a4642c4a5f03b3e8ff4fe0871067123d1bad4352d5ba25", func := "shibboleth/shibbolethlaw04.IdealBytes", spec := "idealBytes", unfollowed := true, recurses := true, plainKeys := false, apart := false }
def IdealBytesSaid : Prop := idealBytesRow.holds Try.pinned (OpenSpec.ofChange idealBytesSpec)

/-- ITS FALSE NEIGHBOUR: 'it returns false'. Refute it at one input. -/
def idealBytesWrong : ChangeSpec := { name := "idealBytes", fn := fun _ => fun
  | [d1, d2, d3] => { results := [.lit (.bool false)], args := [d1, d2, d3] }
  | _ => none }
def IdealBytesWrongFalsely : Prop := idealBytesRow.holds Try.pinned (OpenSpec.ofChange idealBytesWrong)

/-- 'shibbolethlaw04.IdealWraps': WHATEVER THE INPUT: true; the input reads as it did. -/
def idealWrapsSpec : ChangeSpec := { name := "idealWraps", fn := fun _ => fun
  | [d1, d2, d3] => { results := [.lit (.bool true)], args := [d1, d2, d3] }
  | _ => none }
def idealWrapsRow : OpenClaim := { program := "ytoelbhmgmlnieaa", sum := "9311737bca7e285cd6a4642c4a5f03b3e8ff4fe0871067123d1bad4352d5ba25", func := "shibboleth/shibbolethlaw04.IdealWraps", spec := "idealWraps", unfollowed := true, recurses := true, plainKeys := false, apart := false }
def IdealWrapsSaid : Prop := idealWrapsRow.holds Try.pinned (OpenSpec.ofChange idealWrapsSpec)

/-- ITS FALSE NEIGHBOUR: 'it returns false'. Refute it at one input. -/
def idealWrapsWrong : ChangeSpec := { name := "idealWraps", fn := fun _ => fun
  | [d1, d2, d3] => { results := [.lit (.bool false)], args := [d1, d2, d3] }
  | _ => none }
def IdealWrapsWrongFalsely : Prop := idealWrapsRow.holds Try.pinned (OpenSpec.ofChange idealWrapsWrong)

/-- 'shibbolethlaw08.SpecialWrites': WHATEVER THE INPUT: true; the input reads as it did. -/
def specialWritesSpec : ChangeSpec := { name := "specialWrites", fn := fun _ => fun
  | [d1, d2] => { results := [.lit (.bool true)], args := [d1, d2] }
  | _ => none }
def specialWritesRow : OpenClaim := { program := "ytoelbhmgmlnieaa", sum := "9311737bca7e285cd6a4642c4a5f03b3e8ff4fe0871067123d1bad4352d5ba25", func := "shibboleth/shibbolethlaw08.SpecialWrites", spec := "specialWrites", plainKeys := false, apart := false }
def SpecialWritesSaid : Prop := specialWritesRow.holds Try.pinned (OpenSpec.ofChange specialWritesSpec)

/-- ITS FALSE NEIGHBOUR: 'it returns false'. Refute it at one input. -/
def specialWritesWrong : ChangeSpec := { name := "specialWrites", fn := fun _ => fun
  | [d1, d2] => { results := [.lit (.bool false)], args := [d1, d2] }
  | _ => none }
def SpecialWritesWrongFalsely : Prop := specialWritesRow.holds Try.pinned (OpenSpec.ofChange specialWritesWrong)

/-- 'shibbolethlaw08.SpecialReads': WHATEVER THE INPUT: true; the input reads as it did. -/
def specialReadsSpec : ChangeSpec := { name := "specialReads", fn := fun _ => fun
  | [d] => { results := [.lit (.bool true)], args := [d] }
  | _ => none }
def specialReadsRow : OpenClaim := { program := "ytoelbhmgmlnieaa", sum := "9311737bca7e285cd6a4642c4a5f03b3e8ff4fe0871067123d1bad4352d5ba25", func := "shibboleth/shibbolethlaw08.SpecialReads", spec := "specialReads", unfollowed := true, recurses := true, plainKeys := false, apart := false }
def SpecialReadsSaid : Prop := specialReadsRow.holds Try.pinned (OpenSpec.ofChange specialReadsSpec)

/-- ITS FALSE NEIGHBOUR: 'it returns false'. Refute it at one input. -/
def specialReadsWrong : ChangeSpec := { name := "specialReads", fn := fun _ => fun
  | [d] => { results := [.lit (.bool false)], args := [d] }
  | _ => none }
def SpecialReadsWrongFalsely : Prop := specialReadsRow.holds Try.pinned (OpenSpec.ofChange specialReadsWrong)

/-- 'shibbolethlaw08.SpecialBack': WHATEVER THE INPUT: true; the input reads as it did. -/
def specialBackSpec : ChangeSpec := { name := "specialBack", fn := fun _ => fun
  | [d1, d2] => { results := [.lit (.bool true)], args := [d1, d2] }
  | _ => none }
def specialBackRow : OpenClaim := { program := "ytoelbhmgmlnieaa", sum := "9311737bca7e285cd6a4642c4a5f03b3e8ff4fe0871067123d1bad4352d5ba25", func := "shibboleth/shibbolethlaw08.SpecialBack", spec := "specialBack", unfollowed := true, recurses := true, plainKeys := false, apart := false }
def SpecialBackSaid : Prop := specialBackRow.holds Try.pinned (OpenSpec.ofChange specialBackSpec)

/-- ITS FALSE NEIGHBOUR: 'it returns false'. Refute it at one input. -/
def specialBackWrong : ChangeSpec := { name := "specialBack", fn := fun _ => fun
  | [d1, d2] => { results := [.lit (.bool false)], args := [d1, d2] }
  | _ => none }
def SpecialBackWrongFalsely : Prop := specialBackRow.holds Try.pinned (OpenSpec.ofChange specialBackWrong)

/-- 'shibbolethlaw02.TermShares': WHATEVER THE INPUT: true; the input reads as it did. -/
def termSharesSpec : ChangeSpec := { name := "termShares", fn := fun _ => fun
  | [d] => { results := [.lit (.bool true)], args := [d] }
  | _ => none }
def termSharesRow : OpenClaim := { program := "ytoelbhmgmlnieaa", sum := "9311737bca7e285cd6a4642c4a5f03b3e8ff4fe0871067123d1bad4352d5ba25", func := "shibboleth/shibbolethlaw02.TermShares", spec := "termShares", recurses := true, plainKeys := false, apart := false }
def TermSharesSaid : Prop := termSharesRow.holds Try.pinned (OpenSpec.ofChange termSharesSpec)

/-- ITS FALSE NEIGHBOUR: 'it returns false'. Refute it at one input. -/
def termSharesWrong : ChangeSpec := { name := "termShares", fn := fun _ => fun
  | [d] => { results := [.lit (.bool false)], args := [d] }
  | _ => none }
def TermSharesWrongFalsely : Prop := termSharesRow.holds Try.pinned (OpenSpec.ofChange termSharesWrong)

/-- 'shibbolethlaw02.TermMakes': WHATEVER THE INPUT: true; the input reads as it did. -/
def termMakesSpec : ChangeSpec := { name := "termMakes", fn := fun _ => fun
  | [d] => { results := [.lit (.bool true)], args := [d] }
  | _ => none }
def termMakesRow : OpenClaim := { program := "ytoelbhmgmlnieaa", sum := "9311737bca7e285cd6a4642c4a5f03b3e8ff4fe0871067123d1bad4352d5ba25", func := "shibboleth/shibbolethlaw02.TermMakes", spec := "termMakes", recurses := true, plainKeys := false, apart := false }
def TermMakesSaid : Prop := termMakesRow.holds Try.pinned (OpenSpec.ofChange termMakesSpec)

/-- ITS FALSE NEIGHBOUR: 'it returns false'. Refute it at one input. -/
def termMakesWrong : ChangeSpec := { name := "termMakes", fn := fun _ => fun
  | [d] => { results := [.lit (.bool false)], args := [d] }
  | _ => none }
def TermMakesWrongFalsely : Prop := termMakesRow.holds Try.pinned (OpenSpec.ofChange termMakesWrong)

/-- 'shibbolethlaw02.TermTwice': WHATEVER THE INPUT: true; the input reads as it did. -/
def termTwiceSpec : ChangeSpec := { name := "termTwice", fn := fun _ => fun
  | [d] => { results := [.lit (.bool true)], args := [d] }
  | _ => none }
def termTwiceRow : OpenClaim := { program := "ytoelbhmgmlnieaa", sum := "9311737bca7e285cd6a4642c4a5f03b3e8ff4fe0871067123d1bad4352d5ba25", func := "shibboleth/shibbolethlaw02.TermTwice", spec := "termTwice", recurses := true, plainKeys := false, apart := false }
def TermTwiceSaid : Prop := termTwiceRow.holds Try.pinned (OpenSpec.ofChange termTwiceSpec)

/-- ITS FALSE NEIGHBOUR: 'it returns false'. Refute it at one input. -/
def termTwiceWrong : ChangeSpec := { name := "termTwice", fn := fun _ => fun
  | [d] => { results := [.lit (.bool false)], args := [d] }
  | _ => none }
def TermTwiceWrongFalsely : Prop := termTwiceRow.holds Try.pinned (OpenSpec.ofChange termTwiceWrong)

/-- 'shibbolethlaw02.TermNone': WHATEVER THE INPUT: true; the input reads as it did. -/
def termNoneSpec : ChangeSpec := { name := "termNone", fn := fun _ => fun
  | [d1, d2] => { results := [.lit (.bool true)], args := [d1, d2] }
  | _ => none }
def termNoneRow : OpenClaim := { program := "ytoelbhmgmlnieaa", sum := "9311737bca7e285cd6a4642c4a5f03b3e8ff4fe0871067123d1bad4352d5ba25", func := "shibboleth/shibbolethlaw02.TermNone", spec := "termNone", recurses := true, plainKeys := false, apart := false }
def TermNoneSaid : Prop := termNoneRow.holds Try.pinned (OpenSpec.ofChange termNoneSpec)

/-- ITS FALSE NEIGHBOUR: 'it returns false'. Refute it at one input. -/
def termNoneWrong : ChangeSpec := { name := "termNone", fn := fun _ => fun
  | [d1, d2] => { results := [.lit (.bool false)], args := [d1, d2] }
  | _ => none }
def TermNoneWrongFalsely : Prop := termNoneRow.holds Try.pinned (OpenSpec.ofChange termNoneWrong)

/-- 'shibbolethlaw02.TermLong': WHATEVER THE INPUT: true; the input reads as it did. -/
def termLongSpec : ChangeSpec := { name := "termLong", fn := fun _ => fun
  | [d1, d2] => { results := [.lit (.bool true)], args := [d1, d2] }
  | _ => none }
def termLongRow : OpenClaim := { program := "ytoelbhmgmlnieaa", sum := "9311737bca7e285cd6a4642c4a5f03b3e8ff4fe0871067123d1bad4352d5ba25", func := "shibboleth/shibbolethlaw02.TermLong", spec := "termLong", recurses := true, plainKeys := false, apart := false }
def TermLongSaid : Prop := termLongRow.holds Try.pinned (OpenSpec.ofChange termLongSpec)

/-- ITS FALSE NEIGHBOUR: 'it returns false'. Refute it at one input. -/
def termLongWrong : ChangeSpec := { name := "termLong", fn := fun _ => fun
  | [d1, d2] => { results := [.lit (.bool false)], args := [d1, d2] }
  | _ => none }
def TermLongWrongFalsely : Prop := termLongRow.holds Try.pinned (OpenSpec.ofChange termLongWrong)

/-- 'shibbolethlaw04.IdealDerives': WHATEVER THE INPUT: true; the input reads as it did. -/
def idealDerivesSpec : ChangeSpec := { name := "idealDerives", fn := fun _ => fun
  | [d1, d2] => { results := [.lit (.bool true)], args := [d1, d2] }
  | _ => none }
def idealDerivesRow : OpenClaim := { program := "ytoelbhmgmlnieaa", sum := "9311737bca7e285cd6a4642c4a5f03b3e8ff4fe0871067123d1bad4352d5ba25", func := "shibboleth/shibbolethlaw04.IdealDerives", spec := "idealDerives", recurses := true, plainKeys := false, apart := false }
def IdealDerivesSaid : Prop := idealDerivesRow.holds Try.pinned (OpenSpec.ofChange idealDerivesSpec)

/-- ITS FALSE NEIGHBOUR: 'it returns false'. Refute it at one input. -/
def idealDerivesWrong : ChangeSpec := { name := "idealDerives", fn := fun _ => fun
  | [d1, d2] => { results := [.lit (.bool false)], args := [d1, d2] }
  | _ => none }
def IdealDerivesWrongFalsely : Prop := idealDerivesRow.holds Try.pinned (OpenSpec.ofChange idealDerivesWrong)

/-- 'shibbolethlaw04.IdealOpens': WHATEVER THE INPUT: true; the input reads as it did. -/
def idealOpensSpec : ChangeSpec := { name := "idealOpens", fn := fun _ => fun
  | [d1, d2, d3] => { results := [.lit (.bool true)], args := [d1, d2, d3] }
  | _ => none }
def idealOpensRow : OpenClaim := { program := "ytoelbhmgmlnieaa", sum := "9311737bca7e285cd6a4642c4a5f03b3e8ff4fe0871067123d1bad4352d5ba25", func := "shibboleth/shibbolethlaw04.IdealOpens", spec := "idealOpens", recurses := true, plainKeys := false, apart := false }
def IdealOpensSaid : Prop := idealOpensRow.holds Try.pinned (OpenSpec.ofChange idealOpensSpec)

/-- ITS FALSE NEIGHBOUR: 'it returns false'. Refute it at one input. -/
def idealOpensWrong : ChangeSpec := { name := "idealOpens", fn := fun _ => fun
  | [d1, d2, d3] => { results := [.lit (.bool false)], args := [d1, d2, d3] }
  | _ => none }
def IdealOpensWrongFalsely : Prop := idealOpensRow.holds Try.pinned (OpenSpec.ofChange idealOpensWrong)

/- THE SECOND FORM. 'bulk': how many values and letters a reading holds, each counted each time it is reached (what is shared counts as often as it is met; a slice's spare places count too). A statement '..UptoSaid' is the law's where the arguments, and the package variables that the reading takes, are together of bulk at most 1048576: NARROWER than '..Said'. Prove '..Said' where nothing that the law and all that it calls make is longer than what came in: it says more and counts as full. Else prove '..UptoSaid'. A law counts once. -/
mutual
def uptoBulk {H : Type} : DataW H → Nat
  | .lit (.string bytes) => bytes.length + 1
  | .lit _ => 1
  | .nil => 1
  | .ptr d => uptoBulk d + 1
  | .slice elems spare => uptoBulkAll elems + uptoBulkAll spare + 1
  | .agg parts => uptoBulkAll parts + 1
  | .iface _ d => uptoBulk d + 1
  | .map entries => uptoBulkEntries entries + 1
  | .held _ => 1
def uptoBulkAll {H : Type} : List (DataW H) → Nat
  | [] => 0
  | d :: r => uptoBulk d + uptoBulkAll r
def uptoBulkEntries {H : Type} : List (Lit × DataW H) → Nat
  | [] => 0
  | x :: r => uptoBulkEntry x + uptoBulkEntries r
def uptoBulkEntry {H : Type} : Lit × DataW H → Nat
  | (.string bytes, d) => bytes.length + uptoBulk d + 1
  | (_, d) => uptoBulk d + 1
 end
def uptoSmall : (H : Type) → List (DataW H) → Bool := fun _ ds => decide (uptoBulkAll ds ≤ 1048576)
def OpenSpec.upto (s : _root_.Go.ChangeSpec) : _root_.Go.OpenSpec := { _root_.Go.OpenSpec.ofChange s with cond := some uptoSmall }

/-- 'shibbolethlaw04.IdealBytes', WHERE WHAT IT READS IS OF BULK AT MOST 1048576: true; the input reads as it did. -/
def idealBytesUptoRow : OpenClaim := { program := "ytoelbhmgmlnieaa", sum := "9311737bca7e285cd6a4642c4a5f03b3e8ff4fe0871067123d1bad4352d5ba25", func := "shibboleth/shibbolethlaw04.IdealBytes", spec := "idealBytes", unfollowed := true, recurses := true, plainKeys := false, apart := false, narrowed := true }
def IdealBytesUptoSaid : Prop := idealBytesUptoRow.holds Try.pinned (OpenSpec.upto idealBytesSpec)

/-- 'shibbolethlaw04.IdealWraps', WHERE WHAT IT READS IS OF BULK AT MOST 1048576: true; the input reads as it did. -/
def idealWrapsUptoRow : OpenClaim := { program := "ytoelbhmgmlnieaa", sum := "9311737bca7e285cd6a4642c4a5f03b3e8ff4fe0871067123d1bad4352d5ba25", func := "shibboleth/shibbolethlaw04.IdealWraps", spec := "idealWraps", unfollowed := true, recurses := true, plainKeys := false, apart := false, narrowed := true }
def IdealWrapsUptoSaid : Prop := idealWrapsUptoRow.holds Try.pinned (OpenSpec.upto idealWrapsSpec)

/-- 'shibbolethlaw08.SpecialWrites', WHERE WHAT IT READS IS OF BULK AT MOST 1048576: true; the input reads as it did. -/
def specialWritesUptoRow : OpenClaim := { program := "ytoelbhmgmlnieaa", sum := "9311737bca7e285cd6a4642c4a5f03b3e8ff4fe0871067123d1bad4352d5ba25", func := "shibboleth/shibbolethlaw08.SpecialWrites", spec := "specialWrites", plainKeys := false, apart := false, narrowed := true }
def SpecialWritesUptoSaid : Prop := specialWritesUptoRow.holds Try.pinned (OpenSpec.upto specialWritesSpec)

/-- 'shibbolethlaw08.SpecialReads', WHERE WHAT IT READS IS OF BULK AT MOST 1048576: true; the input reads as it did. -/
def specialReadsUptoRow : OpenClaim := { program := "ytoelbhmgmlnieaa", sum := "9311737bca7e285cd6a4642c4a5f03b3e8ff4fe0871067123d1bad4352d5ba25", func := "shibboleth/shibbolethlaw08.SpecialReads", spec := "specialReads", unfollowed := true, recurses := true, plainKeys := false, apart := false, narrowed := true }
def SpecialReadsUptoSaid : Prop := specialReadsUptoRow.holds Try.pinned (OpenSpec.upto specialReadsSpec)

/-- 'shibbolethlaw08.SpecialBack', WHERE WHAT IT READS IS OF BULK AT MOST 1048576: true; the input reads as it did. -/
def specialBackUptoRow : OpenClaim := { program := "ytoelbhmgmlnieaa", sum := "9311737bca7e285cd6a4642c4a5f03b3e8ff4fe0871067123d1bad4352d5ba25", func := "shibboleth/shibbolethlaw08.SpecialBack", spec := "specialBack", unfollowed := true, recurses := true, plainKeys := false, apart := false, narrowed := true }
def SpecialBackUptoSaid : Prop := specialBackUptoRow.holds Try.pinned (OpenSpec.upto specialBackSpec)

/-- 'shibbolethlaw02.TermShares', WHERE WHAT IT READS IS OF BULK AT MOST 1048576: true; the input reads as it did. -/
def termSharesUptoRow : OpenClaim := { program := "ytoelbhmgmlnieaa", sum := "9311737bca7e285cd6a4642c4a5f03b3e8ff4fe0871067123d1bad4352d5ba25", func := "shibboleth/shibbolethlaw02.TermShares", spec := "termShares", recurses := true, plainKeys := false, apart := false, narrowed := true }
def TermSharesUptoSaid : Prop := termSharesUptoRow.holds Try.pinned (OpenSpec.upto termSharesSpec)

/-- 'shibbolethlaw02.TermMakes', WHERE WHAT IT READS IS OF BULK AT MOST 1048576: true; the input reads as it did. -/
def termMakesUptoRow : OpenClaim := { program := "ytoelbhmgmlnieaa", sum := "9311737bca7e285cd6a4642c4a5f03b3e8ff4fe0871067123d1bad4352d5ba25", func := "shibboleth/shibbolethlaw02.TermMakes", spec := "termMakes", recurses := true, plainKeys := false, apart := false, narrowed := true }
def TermMakesUptoSaid : Prop := termMakesUptoRow.holds Try.pinned (OpenSpec.upto termMakesSpec)

/-- 'shibbolethlaw02.TermTwice', WHERE WHAT IT READS IS OF BULK AT MOST 1048576: true; the input reads as it did. -/
def termTwiceUptoRow : OpenClaim := { program := "ytoelbhmgmlnieaa", sum := "9311737bca7e285cd6a4642c4a5f03b3e8ff4fe0871067123d1bad4352d5ba25", func := "shibboleth/shibbolethlaw02.TermTwice", spec := "termTwice", recurses := true, plainKeys := false, apart := false, narrowed := true }
def TermTwiceUptoSaid : Prop := termTwiceUptoRow.holds Try.pinned (OpenSpec.upto termTwiceSpec)

/-- 'shibbolethlaw02.TermNone', WHERE WHAT IT READS IS OF BULK AT MOST 1048576: true; the input reads as it did. -/
def termNoneUptoRow : OpenClaim := { program := "ytoelbhmgmlnieaa", sum := "9311737bca7e285cd6a4642c4a5f03b3e8ff4fe0871067123d1bad4352d5ba25", func := "shibboleth/shibbolethlaw02.TermNone", spec := "termNone", recurses := true, plainKeys := false, apart := false, narrowed := true }
def TermNoneUptoSaid : Prop := termNoneUptoRow.holds Try.pinned (OpenSpec.upto termNoneSpec)

/-- 'shibbolethlaw02.TermLong', WHERE WHAT IT READS IS OF BULK AT MOST 1048576: true; the input reads as it did. -/
def termLongUptoRow : OpenClaim := { program := "ytoelbhmgmlnieaa", sum := "9311737bca7e285cd6a4642c4a5f03b3e8ff4fe0871067123d1bad4352d5ba25", func := "shibboleth/shibbolethlaw02.TermLong", spec := "termLong", recurses := true, plainKeys := false, apart := false, narrowed := true }
def TermLongUptoSaid : Prop := termLongUptoRow.holds Try.pinned (OpenSpec.upto termLongSpec)

/-- 'shibbolethlaw04.IdealDerives', WHERE WHAT IT READS IS OF BULK AT MOST 1048576: true; the input reads as it did. -/
def idealDerivesUptoRow : OpenClaim := { program := "ytoelbhmgmlnieaa", sum := "9311737bca7e285cd6a4642c4a5f03b3e8ff4fe0871067123d1bad4352d5ba25", func := "shibboleth/shibbolethlaw04.IdealDerives", spec := "idealDerives", recurses := true, plainKeys := false, apart := false, narrowed := true }
def IdealDerivesUptoSaid : Prop := idealDerivesUptoRow.holds Try.pinned (OpenSpec.upto idealDerivesSpec)

/-- 'shibbolethlaw04.IdealOpens', WHERE WHAT IT READS IS OF BULK AT MOST 1048576: true; the input reads as it did. -/
def idealOpensUptoRow : OpenClaim := { program := "ytoelbhmgmlnieaa", sum := "9311737bca7e285cd6a4642c4a5f03b3e8ff4fe0871067123d1bad4352d5ba25", func := "shibboleth/shibbolethlaw04.IdealOpens", spec := "idealOpens", recurses := true, plainKeys := false, apart := false, narrowed := true }
def IdealOpensUptoSaid : Prop := idealOpensUptoRow.holds Try.pinned (OpenSpec.upto idealOpensSpec)

end Rows
end Go.Proofs.Ytoelbhmgmlnieaa
