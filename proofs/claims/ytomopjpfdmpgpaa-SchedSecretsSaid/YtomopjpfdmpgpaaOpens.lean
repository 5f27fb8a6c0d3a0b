/- The walk of IdealOpens. No condition. -/
import Derived.Test.YtomopjpfdmpgpaaDerives
import Derived.Test.YtomopjpfdmpgpaaLook
set_option linter.unusedVariables false
set_option linter.unusedSimpArgs false
namespace Go.Proofs.Ytomopjpfdmpgpaa
open Go Go.RowKit Go.WideMaps


def openT (k0 m0 key : Int) (hd s : ByteArray) : Int × Bool := if k0 = key ∧ hd = s then (m0, true) else (0, false)
def OpenPost (r : Int × Bool) (w : World) (e : Ending) (w' : World) : Prop := e = .returned (.tuple #[.int .i64 r.1, .bool r.2]) ∧ Below w.heap.size w w'


theorem sealT_spec {T : List Nd} {k m : Int} {hd : ByteArray} {ns nm : Nd} (hl : hd.size ≤ 2048) (hT : T.length < 60000) (e1 : getT T k = some ns) (k1 : ns.kind ≠ 0) (e3 : getT T m = some nm) (k3 : nm.kind ≠ 0) :
    ∃ h0, getT (sealT T k hd m).1 (sealT T k hd m).2 = some ⟨10, ByteArray.empty, [k, h0, m]⟩ ∧ getT (sealT T k hd m).1 h0 = some (nT hd) := by
  obtain ⟨b1, R2, b2, b3⟩ := textT_spec (T := T) (b := hd) hl (by omega)
  have e1' : getT (textT T hd).1 k = some ns := by rw [b2]; exact getT_mono e1
  have e3' : getT (textT T hd).1 m = some nm := by rw [b2]; exact getT_mono e3
  obtain ⟨c1, R3, c2, c3⟩ := make6_spec (k := 10) (.inr rfl) e1' b1 e3' k1 rfl k3 (by rw [b2]; simp; omega)
  refine ⟨(textT T hd).2, c1, ?_⟩
  show getT (makeT _ 10 _).1 _ = _
  rw [c2]; exact getT_mono b1
end Go.Proofs.Ytomopjpfdmpgpaa
