/-
  NARROWER THAN 'FOR EVERY INPUT', by the rows' own cells (each row's printed sentence says how): ParamsWrite: laid · ParamsSame: laid · ParamsRead: laid · ParamsAgain: laid · ParamsBack: laid · HelloWrites: laid · HelloBack: laid · HelloAgain: laid · HelloCut: laid.
  DERIVED. THE GIVEN ROWS OF THIS SEAT. 9 by the template 'for every input the law returns true; each argument reads behind the call as it read before'; 0 by the template 'total and deterministic' (their statements: YtbfgoojpbhlboaaDoorTotals.lean).
  GIVEN WITH THE SEED: the statements are not yours to turn. If you find one false, say at which input.
  Laid BY PROGRAM, IN A SANDBOX (cutbox-rows.mjs): the forced cells as the released guide's own fill.sh prints them over the translation 8ba283f648409dcb… (all of the seat's roots in one cut). By AI agents, Wed Nov 11 2026. No macro, syntax, notation, axiom, sorry.
-/
import Derived.Test.YtbfgoojpbhlboaaDoorChecked
import GoSem.Claim
import GoSem.ClaimJoined
import GoSem.ClaimMapViews
import Derived.JoinedTies
import Derived.KernelRfl
namespace Go.Proofs.YtbfgoojpbhlboaaDoor
/- THE CELL 'sum', in the pinned program and in every row, IS THE sha256 OF THE DUMP (.gsa) THAT YtbfgoojpbhlboaaDoorProg.lean LOADS. Nothing in Lean hashes anything: it is a label: what it is worth is what the hold of that sum in a sandbox is worth. -/
noncomputable def Tryd.pinned : Pinned := { name := "ytbfgoojpbhlboaadoor", sum := "8ba283f648409dcb4c09e9546279bd3b47a801ca7d72a35a27dee9d20f5963c8", checked := Tryd.checked }
namespace Rows
def none {H : Type} : Left H := { results := [], args := [] }

/- WHAT THE LISTED PACKAGE-LEVEL VARIABLES READ AS WHEN THE CALL BEGINS. Each datum BY PROGRAM (the guide's laid-datum.mjs) off the statement by which the dump's own 'gosem.cut.vars' lays the variable. In a bare row this is a premise. The card (YtbfgoojpbhlboaaDoorCards.lean) ties it to the program's text. -/
def laid_math_bits_deBruijn32tab {H : Type} : DataW H := .agg [.lit (.int .u8 0), .lit (.int .u8 1), .lit (.int .u8 28), .lit (.int .u8 2), .lit (.int .u8 29), .lit (.int .u8 14), .lit (.int .u8 24), .lit (.int .u8 3), .lit (.int .u8 30), .lit (.int .u8 22), .lit (.int .u8 20), .lit (.int .u8 15), .lit (.int .u8 25), .lit (.int .u8 17), .lit (.int .u8 4), .lit (.int .u8 8), .lit (.int .u8 31), .lit (.int .u8 27), .lit (.int .u8 13), .lit (.int .u8 23), .lit (.int .u8 21), .lit (.int .u8 19), .lit (.int .u8 16), .lit (.int .u8 7), .lit (.int .u8 26), .lit (.int .u8 12), .lit (.int .u8 18), .lit (.int .u8 6), .lit (.int .u8 11), .lit (.int .u8 5), .lit (.int .u8 10), .lit (.int .u8 9)]
def laid_math_bits_deBruijn64tab {H : Type} : DataW H := .agg [.lit (.int .u8 0), .lit (.int .u8 1), .lit (.int .u8 56), .lit (.int .u8 2), .lit (.int .u8 57), .lit (.int .u8 49), .lit (.int .u8 28), .lit (.int .u8 3), .lit (.int .u8 61), .lit (.int .u8 58), .lit (.int .u8 42), .lit (.int .u8 50), .lit (.int .u8 38), .lit (.int .u8 29), .lit (.int .u8 17), .lit (.int .u8 4), .lit (.int .u8 62), .lit (.int .u8 47), .lit (.int .u8 59), .lit (.int .u8 36), .lit (.int .u8 45), .lit (.int .u8 43), .lit (.int .u8 51), .lit (.int .u8 22), .lit (.int .u8 53), .lit (.int .u8 39), .lit (.int .u8 33), .lit (.int .u8 30), .lit (.int .u8 24), .lit (.int .u8 18), .lit (.int .u8 12), .lit (.int .u8 5), .lit (.int .u8 63), .lit (.int .u8 55), .lit (.int .u8 48), .lit (.int .u8 27), .lit (.int .u8 60), .lit (.int .u8 41), .lit (.int .u8 37), .lit (.int .u8 16), .lit (.int .u8 46), .lit (.int .u8 35), .lit (.int .u8 44), .lit (.int .u8 21), .lit (.int .u8 52), .lit (.int .u8 32), .lit (.int .u8 23), .lit (.int .u8 11), .lit (.int .u8 54), .lit (.int .u8 26), .lit (.int .u8 40), .lit (.int .u8 15), .lit (.int .u8 34), .lit (.int .u8 20), .lit (.int .u8 31), .lit (.int .u8 10), .lit (.int .u8 25), .lit (.int .u8 14), .lit (.int .u8 19), .lit (.int .u8 9), .lit (.int .u8 13), .lit (.int .u8 8), .lit (.int .u8 7), .lit (.int .u8 6)]

/-- 'shibbolethlaw07.ParamsWrite': WHATEVER THE INPUT: true; the input reads as it did. -/
def paramsWriteSpec : ChangeSpec := { name := "paramsWrite", fn := fun _ => fun
  | [d] => { results := [.lit (.bool true)], args := [d] }
  | _ => none }
def paramsWriteRow : OpenClaim := { program := "ytbfgoojpbhlboaadoor", sum := "8ba283f648409dcb4c09e9546279bd3b47a801ca7d72a35a27dee9d20f5963c8", func := "shibboleth/shibbolethlaw07.ParamsWrite", spec := "paramsWrite", unfollowed := true, recurses := true, named := ["math/bits.deBruijn32tab", "math/bits.deBruijn64tab"], apart := false, laid := [("math/bits.deBruijn32tab", laid_math_bits_deBruijn32tab), ("math/bits.deBruijn64tab", laid_math_bits_deBruijn64tab)] }
def ParamsWriteSaid : Prop := paramsWriteRow.holds Tryd.pinned (OpenSpec.ofChange paramsWriteSpec)

/-- ITS FALSE NEIGHBOUR: 'it returns false'. Refute it at one input. -/
def paramsWriteWrong : ChangeSpec := { name := "paramsWrite", fn := fun _ => fun
  | [d] => { results := [.lit (.bool false)], args := [d] }
  | _ => none }
def ParamsWriteWrongFalsely : Prop := paramsWriteRow.holds Tryd.pinned (OpenSpec.ofChange paramsWriteWrong)

/-- 'shibbolethlaw07.ParamsSame': WHATEVER THE INPUT: true; the input reads as it did. -/
def paramsSameSpec : ChangeSpec := { name := "paramsSame", fn := fun _ => fun
  | [d1, d2] => { results := [.lit (.bool true)], args := [d1, d2] }
  | _ => none }
def paramsSameRow : OpenClaim := { program := "ytbfgoojpbhlboaadoor", sum := "8ba283f648409dcb4c09e9546279bd3b47a801ca7d72a35a27dee9d20f5963c8", func := "shibboleth/shibbolethlaw07.ParamsSame", spec := "paramsSame", unfollowed := true, recurses := true, named := ["math/bits.deBruijn32tab", "math/bits.deBruijn64tab"], apart := false, laid := [("math/bits.deBruijn32tab", laid_math_bits_deBruijn32tab), ("math/bits.deBruijn64tab", laid_math_bits_deBruijn64tab)] }
def ParamsSameSaid : Prop := paramsSameRow.holds Tryd.pinned (OpenSpec.ofChange paramsSameSpec)

/-- ITS FALSE NEIGHBOUR: 'it returns false'. Refute it at one input. -/
def paramsSameWrong : ChangeSpec := { name := "paramsSame", fn := fun _ => fun
  | [d1, d2] => { results := [.lit (.bool false)], args := [d1, d2] }
  | _ => none }
def ParamsSameWrongFalsely : Prop := paramsSameRow.holds Tryd.pinned (OpenSpec.ofChange paramsSameWrong)

/-- 'shibbolethlaw07.ParamsRead': WHATEVER THE INPUT: true; the input reads as it did. -/
def paramsReadSpec : ChangeSpec := { name := "paramsRead", fn := fun _ => fun
  | [d] => { results := [.lit (.bool true)], args := [d] }
  | _ => none }
def paramsReadRow : OpenClaim := { program := "ytbfgoojpbhlboaadoor", sum := "8ba283f648409dcb4c09e9546279bd3b47a801ca7d72a35a27dee9d20f5963c8", func := "shibboleth/shibbolethlaw07.ParamsRead", spec := "paramsRead", unfollowed := true, recurses := true, named := ["math/bits.deBruijn32tab", "math/bits.deBruijn64tab"], apart := false, laid := [("math/bits.deBruijn32tab", laid_math_bits_deBruijn32tab), ("math/bits.deBruijn64tab", laid_math_bits_deBruijn64tab)] }
def ParamsReadSaid : Prop := paramsReadRow.holds Tryd.pinned (OpenSpec.ofChange paramsReadSpec)

/-- ITS FALSE NEIGHBOUR: 'it returns false'. Refute it at one input. -/
def paramsReadWrong : ChangeSpec := { name := "paramsRead", fn := fun _ => fun
  | [d] => { results := [.lit (.bool false)], args := [d] }
  | _ => none }
def ParamsReadWrongFalsely : Prop := paramsReadRow.holds Tryd.pinned (OpenSpec.ofChange paramsReadWrong)

/-- 'shibbolethlaw07.ParamsAgain': WHATEVER THE INPUT: true; the input reads as it did. -/
def paramsAgainSpec : ChangeSpec := { name := "paramsAgain", fn := fun _ => fun
  | [d] => { results := [.lit (.bool true)], args := [d] }
  | _ => none }
def paramsAgainRow : OpenClaim := { program := "ytbfgoojpbhlboaadoor", sum := "8ba283f648409dcb4c09e9546279bd3b47a801ca7d72a35a27dee9d20f5963c8", func := "shibboleth/shibbolethlaw07.ParamsAgain", spec := "paramsAgain", unfollowed := true, recurses := true, named := ["math/bits.deBruijn32tab", "math/bits.deBruijn64tab"], apart := false, laid := [("math/bits.deBruijn32tab", laid_math_bits_deBruijn32tab), ("math/bits.deBruijn64tab", laid_math_bits_deBruijn64tab)] }
def ParamsAgainSaid : Prop := paramsAgainRow.holds Tryd.pinned (OpenSpec.ofChange paramsAgainSpec)

/-- ITS FALSE NEIGHBOUR: 'it returns false'. Refute it at one input. -/
def paramsAgainWrong : ChangeSpec := { name := "paramsAgain", fn := fun _ => fun
  | [d] => { results := [.lit (.bool false)], args := [d] }
  | _ => none }
def ParamsAgainWrongFalsely : Prop := paramsAgainRow.holds Tryd.pinned (OpenSpec.ofChange paramsAgainWrong)

/-- 'shibbolethlaw07.ParamsBack': WHATEVER THE INPUT: true; the input reads as it did. -/
def paramsBackSpec : ChangeSpec := { name := "paramsBack", fn := fun _ => fun
  | [d] => { results := [.lit (.bool true)], args := [d] }
  | _ => none }
def paramsBackRow : OpenClaim := { program := "ytbfgoojpbhlboaadoor", sum := "8ba283f648409dcb4c09e9546279bd3b47a801ca7d72a35a27dee9d20f5963c8", func := "shibboleth/shibbolethlaw07.ParamsBack", spec := "paramsBack", unfollowed := true, recurses := true, named := ["math/bits.deBruijn32tab", "math/bits.deBruijn64tab"], apart := false, laid := [("math/bits.deBruijn32tab", laid_math_bits_deBruijn32tab), ("math/bits.deBruijn64tab", laid_math_bits_deBruijn64tab)] }
def ParamsBackSaid : Prop := paramsBackRow.holds Tryd.pinned (OpenSpec.ofChange paramsBackSpec)

/-- ITS FALSE NEIGHBOUR: 'it returns false'. Refute it at one input. -/
def paramsBackWrong : ChangeSpec := { name := "paramsBack", fn := fun _ => fun
  | [d] => { results := [.lit (.bool false)], args := [d] }
  | _ => none }
def ParamsBackWrongFalsely : Prop := paramsBackRow.holds Tryd.pinned (OpenSpec.ofChange paramsBackWrong)

/-- 'shibbolethlaw14.HelloWrites': WHATEVER THE INPUT: true; the input reads as it did. -/
def helloWritesSpec : ChangeSpec := { name := "helloWrites", fn := fun _ => fun
  | [d] => { results := [.lit (.bool true)], args := [d] }
  | _ => none }
def helloWritesRow : OpenClaim := { program := "ytbfgoojpbhlboaadoor", sum := "8ba283f648409dcb4c09e9546279bd3b47a801ca7d72a35a27dee9d20f5963c8", func := "shibboleth/shibbolethlaw14.HelloWrites", spec := "helloWrites", unfollowed := true, recurses := true, named := ["math/bits.deBruijn32tab", "math/bits.deBruijn64tab"], apart := false, laid := [("math/bits.deBruijn32tab", laid_math_bits_deBruijn32tab), ("math/bits.deBruijn64tab", laid_math_bits_deBruijn64tab)] }
def HelloWritesSaid : Prop := helloWritesRow.holds Tryd.pinned (OpenSpec.ofChange helloWritesSpec)

/-- ITS FALSE NEIGHBOUR: 'it returns false'. Refute it at one input. -/
def helloWritesWrong : ChangeSpec := { name := "helloWrites", fn := fun _ => fun
  | [d] => { results := [.lit (.bool false)], args := [d] }
  | _ => none }
def HelloWritesWrongFalsely : Prop := helloWritesRow.holds Tryd.pinned (OpenSpec.ofChange helloWritesWrong)

/-- 'shibbolethlaw14.HelloBack': WHATEVER THE INPUT: true; the input reads as it did. -/
def helloBackSpec : ChangeSpec := { name := "helloBack", fn := fun _ => fun
  | [d] => { results := [.lit (.bool true)], args := [d] }
  | _ => none }
def helloBackRow : OpenClaim := { program := "ytbfgoojpbhlboaadoor", sum := "8ba283f648409dcb4c09e9546279bd3b47a801ca7d72a35a27dee9d20f5963c8", func := "shibboleth/shibbolethlaw14.HelloBack", spec := "helloBack", unfollowed := true, recurses := true, named := ["math/bits.deBruijn32tab", "math/bits.deBruijn64tab"], apart := false, laid := [("math/bits.deBruijn32tab", laid_math_bits_deBruijn32tab), ("math/bits.deBruijn64tab", laid_math_bits_deBruijn64tab)] }
def HelloBackSaid : Prop := helloBackRow.holds Tryd.pinned (OpenSpec.ofChange helloBackSpec)

/-- ITS FALSE NEIGHBOUR: 'it returns false'. Refute it at one input. -/
def helloBackWrong : ChangeSpec := { name := "helloBack", fn := fun _ => fun
  | [d] => { results := [.lit (.bool false)], args := [d] }
  | _ => none }
def HelloBackWrongFalsely : Prop := helloBackRow.holds Tryd.pinned (OpenSpec.ofChange helloBackWrong)

/-- 'shibbolethlaw14.HelloAgain': WHATEVER THE INPUT: true; the input reads as it did. -/
def helloAgainSpec : ChangeSpec := { name := "helloAgain", fn := fun _ => fun
  | [d] => { results := [.lit (.bool true)], args := [d] }
  | _ => none }
def helloAgainRow : OpenClaim := { program := "ytbfgoojpbhlboaadoor", sum := "8ba283f648409dcb4c09e9546279bd3b47a801ca7d72a35a27dee9d20f5963c8", func := "shibboleth/shibbolethlaw14.HelloAgain", spec := "helloAgain", unfollowed := true, recurses := true, named := ["math/bits.deBruijn32tab", "math/bits.deBruijn64tab"], apart := false, laid := [("math/bits.deBruijn32tab", laid_math_bits_deBruijn32tab), ("math/bits.deBruijn64tab", laid_math_bits_deBruijn64tab)] }
def HelloAgainSaid : Prop := helloAgainRow.holds Tryd.pinned (OpenSpec.ofChange helloAgainSpec)

/-- ITS FALSE NEIGHBOUR: 'it returns false'. Refute it at one input. -/
def helloAgainWrong : ChangeSpec := { name := "helloAgain", fn := fun _ => fun
  | [d] => { results := [.lit (.bool false)], args := [d] }
  | _ => none }
def HelloAgainWrongFalsely : Prop := helloAgainRow.holds Tryd.pinned (OpenSpec.ofChange helloAgainWrong)

/-- 'shibbolethlaw14.HelloCut': WHATEVER THE INPUT: true; the input reads as it did. -/
def helloCutSpec : ChangeSpec := { name := "helloCut", fn := fun _ => fun
  | [d1, d2] => { results := [.lit (.bool true)], args := [d1, d2] }
  | _ => none }
def helloCutRow : OpenClaim := { program := "ytbfgoojpbhlboaadoor", sum := "8ba283f648409dcb4c09e9546279bd3b47a801ca7d72a35a27dee9d20f5963c8", func := "shibboleth/shibbolethlaw14.HelloCut", spec := "helloCut", unfollowed := true, recurses := true, named := ["math/bits.deBruijn32tab", "math/bits.deBruijn64tab"], apart := false, laid := [("math/bits.deBruijn32tab", laid_math_bits_deBruijn32tab), ("math/bits.deBruijn64tab", laid_math_bits_deBruijn64tab)] }
def HelloCutSaid : Prop := helloCutRow.holds Tryd.pinned (OpenSpec.ofChange helloCutSpec)

/-- ITS FALSE NEIGHBOUR: 'it returns false'. Refute it at one input. -/
def helloCutWrong : ChangeSpec := { name := "helloCut", fn := fun _ => fun
  | [d1, d2] => { results := [.lit (.bool false)], args := [d1, d2] }
  | _ => none }
def HelloCutWrongFalsely : Prop := helloCutRow.holds Tryd.pinned (OpenSpec.ofChange helloCutWrong)

/- THE SECOND FORM. 'bulk': how many values and letters a reading holds, each counted each time it is reached (what is shared counts as often as it is met; a slice's spare places count too). A statement '..UptoSaid' is the law's where the arguments, and the package variables that the reading takes, are together of bulk at most 1048576: NARROWER than '..Said'. Prove '..Said' where nothing that the law and all that it calls make is longer than what came in: it says more and counts as full. Else prove '..UptoSaid'. A law counts once. -/
mutual
def uptoBulk {H : Type} : DataW H → Nat
  | .lit (.string bytes) => bytes.length + 1
  | .lit _ => 1
  | .nil => 1
  | .ptr d => uptoBulk d + 1
  | .slice elems spare => uptoBulkAll elems + uptoBulkAll spare + 1
  | .agg parts => uptoBulkAll parts + 1
  | .iface _ d => uptoBulk d + 1
  | .map entries => uptoBulkEntries entries + 1
  | .held _ => 1
def uptoBulkAll {H : Type} : List (DataW H) → Nat
  | [] => 0
  | d :: r => uptoBulk d + uptoBulkAll r
def uptoBulkEntries {H : Type} : List (Lit × DataW H) → Nat
  | [] => 0
  | x :: r => uptoBulkEntry x + uptoBulkEntries r
def uptoBulkEntry {H : Type} : Lit × DataW H → Nat
  | (.string bytes, d) => bytes.length + uptoBulk d + 1
  | (_, d) => uptoBulk d + 1
 end
def uptoSmall : (H : Type) → List (DataW H) → Bool := fun _ ds => decide (uptoBulkAll ds ≤ 1048576)
def OpenSpec.upto (s : _root_.Go.ChangeSpec) : _root_.Go.OpenSpec := { _root_.Go.OpenSpec.ofChange s with cond := some uptoSmall }

/-- 'shibbolethlaw07.ParamsWrite', WHERE WHAT IT READS IS OF BULK AT MOST 1048576: true; the input reads as it did. -/
def paramsWriteUptoRow : OpenClaim := { program := "ytbfgoojpbhlboaadoor", sum := "8ba283f648409dcb4c09e9546279bd3b47a801ca7d72a35a27dee9d20f5963c8", func := "shibboleth/shibbolethlaw07.ParamsWrite", spec := "paramsWrite", unfollowed := true, recurses := true, named := ["math/bits.deBruijn32tab", "math/bits.deBruijn64tab"], apart := false, laid := [("math/bits.deBruijn32tab", laid_math_bits_deBruijn32tab), ("math/bits.deBruijn64tab", laid_math_bits_deBruijn64tab)], narrowed := true }
def ParamsWriteUptoSaid : Prop := paramsWriteUptoRow.holds Tryd.pinned (OpenSpec.upto paramsWriteSpec)

/-- 'shibbolethlaw07.ParamsSame', WHERE WHAT IT READS IS OF BULK AT MOST 1048576: true; the input reads as it did. -/
def paramsSameUptoRow : OpenClaim := { program := "ytbfgoojpbhlboaadoor", sum := "8ba283f648409dcb4c09e9546279bd3b47a801ca7d72a35a27dee9d20f5963c8", func := "shibboleth/shibbolethlaw07.ParamsSame", spec := "paramsSame", unfollowed := true, recurses := true, named := ["math/bits.deBruijn32tab", "math/bits.deBruijn64tab"], apart := false, laid := [("math/bits.deBruijn32tab", laid_math_bits_deBruijn32tab), ("math/bits.deBruijn64tab", laid_math_bits_deBruijn64tab)], narrowed := true }
def ParamsSameUptoSaid : Prop := paramsSameUptoRow.holds Tryd.pinned (OpenSpec.upto paramsSameSpec)

/-- 'shibbolethlaw07.ParamsRead', WHERE WHAT IT READS IS OF BULK AT MOST 1048576: true; the input reads as it did. -/
def paramsReadUptoRow : OpenClaim := { program := "ytbfgoojpbhlboaadoor", sum := "8ba283f648409dcb4c09e9546279bd3b47a801ca7d72a35a27dee9d20f5963c8", func := "shibboleth/shibbolethlaw07.ParamsRead", spec := "paramsRead", unfollowed := true, recurses := true, named := ["math/bits.deBruijn32tab", "math/bits.deBruijn64tab"], apart := false, laid := [("math/bits.deBruijn32tab", laid_math_bits_deBruijn32tab), ("math/bits.deBruijn64tab", laid_math_bits_deBruijn64tab)], narrowed := true }
def ParamsReadUptoSaid : Prop := paramsReadUptoRow.holds Tryd.pinned (OpenSpec.upto paramsReadSpec)

/-- 'shibbolethlaw07.ParamsAgain', WHERE WHAT IT READS IS OF BULK AT MOST 1048576: true; the input reads as it did. -/
def paramsAgainUptoRow : OpenClaim := { program := "ytbfgoojpbhlboaadoor", sum := "8ba283f648409dcb4c09e9546279bd3b47a801ca7d72a35a27dee9d20f5963c8", func := "shibboleth/shibbolethlaw07.ParamsAgain", spec := "paramsAgain", unfollowed := true, recurses := true, named := ["math/bits.deBruijn32tab", "math/bits.deBruijn64tab"], apart := false, laid := [("math/bits.deBruijn32tab", laid_math_bits_deBruijn32tab), ("math/bits.deBruijn64tab", laid_math_bits_deBruijn64tab)], narrowed := true }
def ParamsAgainUptoSaid : Prop := paramsAgainUptoRow.holds Tryd.pinned (OpenSpec.upto paramsAgainSpec)

/-- 'shibbolethlaw07.ParamsBack', WHERE WHAT IT READS IS OF BULK AT MOST 1048576: true; the input reads as it did. -/
def paramsBackUptoRow : OpenClaim := { program := "ytbfgoojpbhlboaadoor", sum := "8ba283f648409dcb4c09e9546279bd3b47a801ca7d72a35a27dee9d20f5963c8", func := "shibboleth/shibbolethlaw07.ParamsBack", spec := "paramsBack", unfollowed := true, recurses := true, named := ["math/bits.deBruijn32tab", "math/bits.deBruijn64tab"], apart := false, laid := [("math/bits.deBruijn32tab", laid_math_bits_deBruijn32tab), ("math/bits.deBruijn64tab", laid_math_bits_deBruijn64tab)], narrowed := true }
def ParamsBackUptoSaid : Prop := paramsBackUptoRow.holds Tryd.pinned (OpenSpec.upto paramsBackSpec)

/-- 'shibbolethlaw14.HelloWrites', WHERE WHAT IT READS IS OF BULK AT MOST 1048576: true; the input reads as it did. -/
def helloWritesUptoRow : OpenClaim := { program := "ytbfgoojpbhlboaadoor", sum := "8ba283f648409dcb4c09e9546279bd3b47a801ca7d72a35a27dee9d20f5963c8", func := "shibboleth/shibbolethlaw14.HelloWrites", spec := "helloWrites", unfollowed := true, recurses := true, named := ["math/bits.deBruijn32tab", "math/bits.deBruijn64tab"], apart := false, laid := [("math/bits.deBruijn32tab", laid_math_bits_deBruijn32tab), ("math/bits.deBruijn64tab", laid_math_bits_deBruijn64tab)], narrowed := true }
def HelloWritesUptoSaid : Prop := helloWritesUptoRow.holds Tryd.pinned (OpenSpec.upto helloWritesSpec)

/-- 'shibbolethlaw14.HelloBack', WHERE WHAT IT READS IS OF BULK AT MOST 1048576: true; the input reads as it did. -/
def helloBackUptoRow : OpenClaim := { program := "ytbfgoojpbhlboaadoor", sum := "8ba283f648409dcb4c09e9546279bd3b47a801ca7d72a35a27dee9d20f5963c8", func := "shibboleth/shibbolethlaw14.HelloBack", spec := "helloBack", unfollowed := true, recurses := true, named := ["math/bits.deBruijn32tab", "math/bits.deBruijn64tab"], apart := false, laid := [("math/bits.deBruijn32tab", laid_math_bits_deBruijn32tab), ("math/bits.deBruijn64tab", laid_math_bits_deBruijn64tab)], narrowed := true }
def HelloBackUptoSaid : Prop := helloBackUptoRow.holds Tryd.pinned (OpenSpec.upto helloBackSpec)

/-- 'shibbolethlaw14.HelloAgain', WHERE WHAT IT READS IS OF BULK AT MOST 1048576: true; the input reads as it did. -/
def helloAgainUptoRow : OpenClaim := { program := "ytbfgoojpbhlboaadoor", sum := "8ba283f648409dcb4c09e9546279bd3b47a801ca7d72a35a27dee9d20f5963c8", func := "shibboleth/shibbolethlaw14.HelloAgain", spec := "helloAgain", unfollowed := true, recurses := true, named := ["math/bits.deBruijn32tab", "math/bits.deBruijn64tab"], apart := false, laid := [("math/bits.deBruijn32tab", laid_math_bits_deBruijn32tab), ("math/bits.deBruijn64tab", laid_math_bits_deBruijn64tab)], narrowed := true }
def HelloAgainUptoSaid : Prop := helloAgainUptoRow.holds Tryd.pinned (OpenSpec.upto helloAgainSpec)

/-- 'shibbolethlaw14.HelloCut', WHERE WHAT IT READS IS OF BULK AT MOST 1048576: true; the input reads as it did. -/
def helloCutUptoRow : OpenClaim := { program := "ytbfgoojpbhlboaadoor", sum := "8ba283f648409dcb4c09e9546279bd3b47a801ca7d72a35a27dee9d20f5963c8", func := "shibboleth/shibbolethlaw14.HelloCut", spec := "helloCut", unfollowed := true, recurses := true, named := ["math/bits.deBruijn32tab", "math/bits.deBruijn64tab"], apart := false, laid := [("math/bits.deBruijn32tab", laid_math_bits_deBruijn32tab), ("math/bits.deBruijn64tab", laid_math_bits_deBruijn64tab)], narrowed := true }
def HelloCutUptoSaid : Prop := helloCutUptoRow.holds Tryd.pinned (OpenSpec.upto helloCutSpec)

end Rows
end Go.Proofs.YtbfgoojpbhlboaaDoor
