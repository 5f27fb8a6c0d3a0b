/- The walk of IdealOpens. No condition. -/
import Derived.Test.YtbcicfgffjgpdaaDerives
set_option linter.unusedVariables false
set_option linter.unusedSimpArgs false
namespace Go.Proofs.Ytbcicfgffjgpdaa
open Go Go.RowKit Go.WideMaps


theorem look_node {B tb : Nat} {T : List Nd} (h : Int) (n : Nd) (w : World) (ht : IsTab B w tb T) (e : getT T h = some n) :
    Calls Try.prog 32 #[.pointer (some ⟨tb, 0, none⟩), .int .i64 h] w fun e w' => ∃ A c, e = .returned (.tuple #[.agg #[.int .i64 n.kind, .string n.text, .slice A n.parts.length c], .bool true]) ∧ OwnI w' w.heap.size .i64 (.slice A n.parts.length c) n.parts ∧ Below w.heap.size w w' := by
  have hr := getT_range e
  have := ht.1.len
  refine (look_any h w ht (by omega) (by omega)).mono ?_
  rintro e' w' ⟨A, c, rfl, ho, hb⟩
  have h1 : nodeT T h = n := by unfold nodeT; rw [e]; rfl
  have h2 : (getT T h).isSome = true := by rw [e]; rfl
  rw [h1] at ho
  rw [h1, h2]
  exact ⟨A, c, rfl, ho, hb⟩
def openT (k0 m0 key : Int) (hd s : ByteArray) : Int × Bool := if k0 = key ∧ hd = s then (m0, true) else (0, false)
def OpenPost (r : Int × Bool) (w : World) (e : Ending) (w' : World) : Prop := e = .returned (.tuple #[.int .i64 r.1, .bool r.2]) ∧ Below w.heap.size w w'


theorem sealT_spec {T : List Nd} {k m : Int} {hd : ByteArray} {ns nm : Nd} (hl : hd.size ≤ 2048) (hT : T.length < 60000) (e1 : getT T k = some ns) (k1 : ns.kind ≠ 0) (e3 : getT T m = some nm) (k3 : nm.kind ≠ 0) :
    ∃ h0, getT (sealT T k hd m).1 (sealT T k hd m).2 = some ⟨10, ByteArray.empty, [k, h0, m]⟩ ∧ getT (sealT T k hd m).1 h0 = some (nT hd) := by
  obtain ⟨b1, R2, b2, b3⟩ := textT_spec (T := T) (b := hd) hl (by omega)
  have e1' : getT (textT T hd).1 k = some ns := by rw [b2]; exact getT_mono e1
  have e3' : getT (textT T hd).1 m = some nm := by rw [b2]; exact getT_mono e3
  obtain ⟨c1, R3, c2, c3⟩ := make6_spec (k := 10) (.inr rfl) e1' b1 e3' k1 rfl k3 (by rw [b2]; simp; omega)
  refine ⟨(textT T hd).2, c1, ?_⟩
  show getT (makeT _ 10 _).1 _ = _
  rw [c2]; exact getT_mono b1
theorem strOfNums_inj {xs ys : List Int} (hx : Byt xs) (hy : Byt ys) (h : strOfNums xs = strOfNums ys) : xs = ys := by
  have h1 : (xs.map fun n => UInt8.ofNat n.toNat) = ys.map fun n => UInt8.ofNat n.toNat := by
    have := congrArg (fun b : ByteArray => b.data.toList) h
    simpa [strOfNums] using this
  have hl : xs.length = ys.length := by simpa using congrArg List.length h1
  apply List.ext_getElem hl
  intro i h2 h3
  have h4 := congrArg (fun l => l[i]?) h1
  simp only [List.getElem?_map, List.getElem?_eq_getElem h2, List.getElem?_eq_getElem h3, Option.map_some, Option.some.injEq] at h4
  have a := hx _ (List.getElem_mem h2)
  have b := hy _ (List.getElem_mem h3)
  have h5 := congrArg UInt8.toNat h4
  simp at h5
  omega

end Go.Proofs.Ytbcicfgffjgpdaa
