/-
  No cell of these rows narrows 'for every input' (looked for: loops, veiled, ifaces, maps, wideKeys, modest, calm, conditions, laid).
  DERIVED. THE GIVEN ROWS OF THIS SEAT. 7 by the template 'for every input the law returns true; each argument reads behind the call as it read before'; 0 by the template 'total and deterministic' (their statements: YtbcicfgffjgpdaaTotals.lean).
  GIVEN WITH THE SEED: the statements are not yours to turn. If you find one false, say at which input.
  Laid BY PROGRAM, IN A SANDBOX (cutbox-rows.mjs): the forced cells as the released guide's own fill.sh prints them over the translation 6a666674b1ab02d2… (all of the seat's roots in one cut). By AI agents, Wed Nov 11 2026. No macro, syntax, notation, axiom, sorry.
-/
import Derived.Test.YtbcicfgffjgpdaaChecked
import GoSem.Claim
import GoSem.ClaimJoined
import GoSem.ClaimMapViews
import Derived.JoinedTies
import Derived.KernelRfl
namespace Go.Proofs.Ytbcicfgffjgpdaa
/- THE CELL 'sum', in the pinned program and in every row, IS THE sha256 OF THE DUMP (.gsa) THAT YtbcicfgffjgpdaaProg.lean LOADS. Nothing in Lean hashes anything: it is a label: what it is worth is what the hold of that sum in a sandbox is worth. -/
noncomputable def Try.pinned : Pinned := { name := "ytbcicfgffjgpdaa", sum := "6a666674b1ab02d2391be8ba0d45a026ed0ebafb537357f7c63959e95d5c73b1", checked := Try.checked }
namespace Rows
def none {H : Type} : Left H := { results := [], args := [] }

/-- 'shibbolethlaw15.SchedUnlike': WHATEVER THE INPUT: true; the input reads as it did. -/
def schedUnlikeSpec : ChangeSpec := { name := "schedUnlike", fn := fun _ => fun
  | [d1, d2] => { results := [.lit (.bool true)], args := [d1, d2] }
  | _ => none }
def schedUnlikeRow : OpenClaim := { program := "ytbcicfgffjgpdaa", sum := "6a666674b1ab02d2391be8ba0d45a026ed0ebafb537357f7c63959e95d5c73b1", func := "shibboleth/shibbolethlaw15.SchedUnlike", spec := "schedUnlike", unfollowed := true, recurses := true, plainKeys := false, apart := false }
def SchedUnlikeSaid : Prop := schedUnlikeRow.holds Try.pinned (OpenSpec.ofChange schedUnlikeSpec)

/-- ITS FALSE NEIGHBOUR: 'it returns false'. Refute it at one input. -/
def schedUnlikeWrong : ChangeSpec := { name := "schedUnlike", fn := fun _ => fun
  | [d1, d2] => { results := [.lit (.bool false)], args := [d1, d2] }
  | _ => none }
def SchedUnlikeWrongFalsely : Prop := schedUnlikeRow.holds Try.pinned (OpenSpec.ofChange schedUnlikeWrong)

/-- 'shibbolethlaw15.SchedTickets': WHATEVER THE INPUT: true; the input reads as it did. -/
def schedTicketsSpec : ChangeSpec := { name := "schedTickets", fn := fun _ => fun
  | [d] => { results := [.lit (.bool true)], args := [d] }
  | _ => none }
def schedTicketsRow : OpenClaim := { program := "ytbcicfgffjgpdaa", sum := "6a666674b1ab02d2391be8ba0d45a026ed0ebafb537357f7c63959e95d5c73b1", func := "shibboleth/shibbolethlaw15.SchedTickets", spec := "schedTickets", unfollowed := true, recurses := true, plainKeys := false, apart := false }
def SchedTicketsSaid : Prop := schedTicketsRow.holds Try.pinned (OpenSpec.ofChange schedTicketsSpec)

/-- ITS FALSE NEIGHBOUR: 'it returns false'. Refute it at one input. -/
def schedTicketsWrong : ChangeSpec := { name := "schedTickets", fn := fun _ => fun
  | [d] => { results := [.lit (.bool false)], args := [d] }
  | _ => none }
def SchedTicketsWrongFalsely : Prop := schedTicketsRow.holds Try.pinned (OpenSpec.ofChange schedTicketsWrong)

/-- 'shibbolethlaw15.SchedAsks': WHATEVER THE INPUT: true; the input reads as it did. -/
def schedAsksSpec : ChangeSpec := { name := "schedAsks", fn := fun _ => fun
  | [d1, d2, d3] => { results := [.lit (.bool true)], args := [d1, d2, d3] }
  | _ => none }
def schedAsksRow : OpenClaim := { program := "ytbcicfgffjgpdaa", sum := "6a666674b1ab02d2391be8ba0d45a026ed0ebafb537357f7c63959e95d5c73b1", func := "shibboleth/shibbolethlaw15.SchedAsks", spec := "schedAsks", recurses := true, plainKeys := false, apart := false }
def SchedAsksSaid : Prop := schedAsksRow.holds Try.pinned (OpenSpec.ofChange schedAsksSpec)

/-- ITS FALSE NEIGHBOUR: 'it returns false'. Refute it at one input. -/
def schedAsksWrong : ChangeSpec := { name := "schedAsks", fn := fun _ => fun
  | [d1, d2, d3] => { results := [.lit (.bool false)], args := [d1, d2, d3] }
  | _ => none }
def SchedAsksWrongFalsely : Prop := schedAsksRow.holds Try.pinned (OpenSpec.ofChange schedAsksWrong)

/-- 'shibbolethlaw15.SchedNone': WHATEVER THE INPUT: true; the input reads as it did. -/
def schedNoneSpec : ChangeSpec := { name := "schedNone", fn := fun _ => fun
  | [d] => { results := [.lit (.bool true)], args := [d] }
  | _ => none }
def schedNoneRow : OpenClaim := { program := "ytbcicfgffjgpdaa", sum := "6a666674b1ab02d2391be8ba0d45a026ed0ebafb537357f7c63959e95d5c73b1", func := "shibboleth/shibbolethlaw15.SchedNone", spec := "schedNone", unfollowed := true, recurses := true, plainKeys := false, apart := false }
def SchedNoneSaid : Prop := schedNoneRow.holds Try.pinned (OpenSpec.ofChange schedNoneSpec)

/-- ITS FALSE NEIGHBOUR: 'it returns false'. Refute it at one input. -/
def schedNoneWrong : ChangeSpec := { name := "schedNone", fn := fun _ => fun
  | [d] => { results := [.lit (.bool false)], args := [d] }
  | _ => none }
def SchedNoneWrongFalsely : Prop := schedNoneRow.holds Try.pinned (OpenSpec.ofChange schedNoneWrong)

/-- 'shibbolethlaw15.SchedRows': WHATEVER THE INPUT: true; the input reads as it did. -/
def schedRowsSpec : ChangeSpec := { name := "schedRows", fn := fun _ => fun
  | [d1, d2, d3] => { results := [.lit (.bool true)], args := [d1, d2, d3] }
  | _ => none }
def schedRowsRow : OpenClaim := { program := "ytbcicfgffjgpdaa", sum := "6a666674b1ab02d2391be8ba0d45a026ed0ebafb537357f7c63959e95d5c73b1", func := "shibboleth/shibbolethlaw15.SchedRows", spec := "schedRows", unfollowed := true, recurses := true, plainKeys := false, apart := false }
def SchedRowsSaid : Prop := schedRowsRow.holds Try.pinned (OpenSpec.ofChange schedRowsSpec)

/-- ITS FALSE NEIGHBOUR: 'it returns false'. Refute it at one input. -/
def schedRowsWrong : ChangeSpec := { name := "schedRows", fn := fun _ => fun
  | [d1, d2, d3] => { results := [.lit (.bool false)], args := [d1, d2, d3] }
  | _ => none }
def SchedRowsWrongFalsely : Prop := schedRowsRow.holds Try.pinned (OpenSpec.ofChange schedRowsWrong)

/-- 'shibbolethlaw08.SpecialUnlike': WHATEVER THE INPUT: true; the input reads as it did. -/
def specialUnlikeSpec : ChangeSpec := { name := "specialUnlike", fn := fun _ => fun
  | [d] => { results := [.lit (.bool true)], args := [d] }
  | _ => none }
def specialUnlikeRow : OpenClaim := { program := "ytbcicfgffjgpdaa", sum := "6a666674b1ab02d2391be8ba0d45a026ed0ebafb537357f7c63959e95d5c73b1", func := "shibboleth/shibbolethlaw08.SpecialUnlike", spec := "specialUnlike", recurses := true, plainKeys := false, apart := false }
def SpecialUnlikeSaid : Prop := specialUnlikeRow.holds Try.pinned (OpenSpec.ofChange specialUnlikeSpec)

/-- ITS FALSE NEIGHBOUR: 'it returns false'. Refute it at one input. -/
def specialUnlikeWrong : ChangeSpec := { name := "specialUnlike", fn := fun _ => fun
  | [d] => { results := [.lit (.bool false)], args := [d] }
  | _ => none }
def SpecialUnlikeWrongFalsely : Prop := specialUnlikeRow.holds Try.pinned (OpenSpec.ofChange specialUnlikeWrong)

/-- 'shibbolethlaw08.SpecialAsks': WHATEVER THE INPUT: true; the input reads as it did. -/
def specialAsksSpec : ChangeSpec := { name := "specialAsks", fn := fun _ => fun
  | [d1, d2] => { results := [.lit (.bool true)], args := [d1, d2] }
  | _ => none }
def specialAsksRow : OpenClaim := { program := "ytbcicfgffjgpdaa", sum := "6a666674b1ab02d2391be8ba0d45a026ed0ebafb537357f7c63959e95d5c73b1", func := "shibboleth/shibbolethlaw08.SpecialAsks", spec := "specialAsks", recurses := true, plainKeys := false, apart := false }
def SpecialAsksSaid : Prop := specialAsksRow.holds Try.pinned (OpenSpec.ofChange specialAsksSpec)

/-- ITS FALSE NEIGHBOUR: 'it returns false'. Refute it at one input. -/
def specialAsksWrong : ChangeSpec := { name := "specialAsks", fn := fun _ => fun
  | [d1, d2] => { results := [.lit (.bool false)], args := [d1, d2] }
  | _ => none }
def SpecialAsksWrongFalsely : Prop := specialAsksRow.holds Try.pinned (OpenSpec.ofChange specialAsksWrong)

/- THE SECOND FORM. 'bulk': how many values and letters a reading holds, each counted each time it is reached (what is shared counts as often as it is met; a slice's spare places count too). A statement '..UptoSaid' is the law's where the arguments, and the package variables that the reading takes, are together of bulk at most 1048576: NARROWER than '..Said'. Prove '..Said' where nothing that the law and all that it calls make is longer than what came in: it says more and counts as full. Else prove '..UptoSaid'. A law counts once. -/
mutual
def uptoBulk {H : Type} : DataW H → Nat
  | .lit (.string bytes) => bytes.length + 1
  | .lit _ => 1
  | .nil => 1
  | .ptr d => uptoBulk d + 1
  | .slice elems spare => uptoBulkAll elems + uptoBulkAll spare + 1
  | .agg parts => uptoBulkAll parts + 1
  | .iface _ d => uptoBulk d + 1
  | .map entries => uptoBulkEntries entries + 1
  | .held _ => 1
def uptoBulkAll {H : Type} : List (DataW H) → Nat
  | [] => 0
  | d :: r => uptoBulk d + uptoBulkAll r
def uptoBulkEntries {H : Type} : List (Lit × DataW H) → Nat
  | [] => 0
  | x :: r => uptoBulkEntry x + uptoBulkEntries r
def uptoBulkEntry {H : Type} : Lit × DataW H → Nat
  | (.string bytes, d) => bytes.length + uptoBulk d + 1
  | (_, d) => uptoBulk d + 1
 end
def uptoSmall : (H : Type) → List (DataW H) → Bool := fun _ ds => decide (uptoBulkAll ds ≤ 1048576)
def OpenSpec.upto (s : _root_.Go.ChangeSpec) : _root_.Go.OpenSpec := { _root_.Go.OpenSpec.ofChange s with cond := some uptoSmall }

/-- 'shibbolethlaw15.SchedUnlike', WHERE WHAT IT READS IS OF BULK AT MOST 1048576: true; the input reads as it did. -/
def schedUnlikeUptoRow : OpenClaim := { program := "ytbcicfgffjgpdaa", sum := "6a666674b1ab02d2391be8ba0d45a026ed0ebafb537357f7c63959e95d5c73b1", func := "shibboleth/shibbolethlaw15.SchedUnlike", spec := "schedUnlike", unfollowed := true, recurses := true, plainKeys := false, apart := false, narrowed := true }
def SchedUnlikeUptoSaid : Prop := schedUnlikeUptoRow.holds Try.pinned (OpenSpec.upto schedUnlikeSpec)

/-- 'shibbolethlaw15.SchedTickets', WHERE WHAT IT READS IS OF BULK AT MOST 1048576: true; the input reads as it did. -/
def schedTicketsUptoRow : OpenClaim := { program := "ytbcicfgffjgpdaa", sum := "6a666674b1ab02d2391be8ba0d45a026ed0ebafb537357f7c63959e95d5c73b1", func := "shibboleth/shibbolethlaw15.SchedTickets", spec := "schedTickets", unfollowed := true, recurses := true, plainKeys := false, apart := false, narrowed := true }
def SchedTicketsUptoSaid : Prop := schedTicketsUptoRow.holds Try.pinned (OpenSpec.upto schedTicketsSpec)

/-- 'shibbolethlaw15.SchedAsks', WHERE WHAT IT READS IS OF BULK AT MOST 1048576: true; the input reads as it did. -/
def schedAsksUptoRow : OpenClaim := { program := "ytbcicfgffjgpdaa", sum := "6a666674b1ab02d2391be8ba0d45a026ed0ebafb537357f7c63959e95d5c73b1", func := "shibboleth/shibbolethlaw15.SchedAsks", spec := "schedAsks", recurses := true, plainKeys := false, apart := false, narrowed := true }
def SchedAsksUptoSaid : Prop := schedAsksUptoRow.holds Try.pinned (OpenSpec.upto schedAsksSpec)

/-- 'shibbolethlaw15.SchedNone', WHERE WHAT IT READS IS OF BULK AT MOST 1048576: true; the input reads as it did. -/
def schedNoneUptoRow : OpenClaim := { program := "ytbcicfgffjgpdaa", sum := "6a666674b1ab02d2391be8ba0d45a026ed0ebafb537357f7c63959e95d5c73b1", func := "shibboleth/shibbolethlaw15.SchedNone", spec := "schedNone", unfollowed := true, recurses := true, plainKeys := false, apart := false, narrowed := true }
def SchedNoneUptoSaid : Prop := schedNoneUptoRow.holds Try.pinned (OpenSpec.upto schedNoneSpec)

/-- 'shibbolethlaw15.SchedRows', WHERE WHAT IT READS IS OF BULK AT MOST 1048576: true; the input reads as it did. -/
def schedRowsUptoRow : OpenClaim := { program := "ytbcicfgffjgpdaa", sum := "6a666674b1ab02d2391be8ba0d45a026ed0ebafb537357f7c63959e95d5c73b1", func := "shibboleth/shibbolethlaw15.SchedRows", spec := "schedRows", unfollowed := true, recurses := true, plainKeys := false, apart := false, narrowed := true }
def SchedRowsUptoSaid : Prop := schedRowsUptoRow.holds Try.pinned (OpenSpec.upto schedRowsSpec)

/-- 'shibbolethlaw08.SpecialUnlike', WHERE WHAT IT READS IS OF BULK AT MOST 1048576: true; the input reads as it did. -/
def specialUnlikeUptoRow : OpenClaim := { program := "ytbcicfgffjgpdaa", sum := "6a666674b1ab02d2391be8ba0d45a026ed0ebafb537357f7c63959e95d5c73b1", func := "shibboleth/shibbolethlaw08.SpecialUnlike", spec := "specialUnlike", recurses := true, plainKeys := false, apart := false, narrowed := true }
def SpecialUnlikeUptoSaid : Prop := specialUnlikeUptoRow.holds Try.pinned (OpenSpec.upto specialUnlikeSpec)

/-- 'shibbolethlaw08.SpecialAsks', WHERE WHAT IT READS IS OF BULK AT MOST 1048576: true; the input reads as it did. -/
def specialAsksUptoRow : OpenClaim := { program := "ytbcicfgffjgpdaa", sum := "6a666674b1ab02d2391be8ba0d45a026ed0ebafb537357f7c63959e95d5c73b1", func := "shibboleth/shibbolethlaw08.SpecialAsks", spec := "specialAsks", recurses := true, plainKeys := false, apart := false, narrowed := true }
def SpecialAsksUptoSaid : Prop := specialAsksUptoRow.holds Try.pinned (OpenSpec.upto specialAsksSpec)

end Rows
end Go.Proofs.Ytbcicfgffjgpdaa
