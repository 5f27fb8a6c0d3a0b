/- ideal.Open at any term. No condition. -/
import Derived.Test.YtmaedahleenlgaaDoorOpens
import Derived.Test.YtmaedahleenlgaaDoorFit
import Derived.Test.YtmaedahleenlgaaDoorLater
set_option linter.unusedVariables false
set_option linter.unusedSimpArgs false
namespace Go.Proofs.YtmaedahleenlgaaDoor
open Go Go.RowKit Go.WideMaps

def openV (T : List Nd) (key : Int) (hd : ByteArray) (sealed : Int) : Int × Bool := match getT T sealed with
  | some nd => if nd.kind = 10 ∧ nth nd.parts 0 = key ∧ (nodeT T (nth nd.parts 1)).text = hd then (nth nd.parts 2, true) else (0, false)
  | none => (0, false)
theorem openV_none {T : List Nd} {key sealed : Int} {hd : ByteArray} (h : getT T sealed = none) : openV T key hd sealed = (0, false) := by unfold openV; rw [h]
theorem openV_kind {T : List Nd} {key sealed : Int} {hd : ByteArray} {nd : Nd} (h : getT T sealed = some nd) (k : nd.kind ≠ 10) : openV T key hd sealed = (0, false) := by
  unfold openV; rw [h]; exact if_neg fun q => k q.1
theorem sealed_form {T : List Nd} (hw : WfT T) {sealed : Int} {nd : Nd} (h : getT T sealed = some nd) (k : nd.kind = 10) : ∃ k0 h0 m0 hd, nd = ⟨10, ByteArray.empty, [k0, h0, m0]⟩ ∧ getT T h0 = some (nT hd) := by
  have hg := hw.get h
  obtain ⟨hl, hk⟩ := hg.k6 (.inr k)
  obtain ⟨kd, tx, ps⟩ := nd
  simp only at k hl hk
  subst k
  have ht : tx = ByteArray.empty := hg.k3 (by show (10 : Int) ≠ 1; decide)
  subst ht
  match ps, hl with
  | [k0, h0, m0], _ =>
    have hk' : kindT T h0 = 1 := hk
    unfold kindT at hk'
    cases e : getT T h0 with
    | none => rw [e] at hk'; cases hk'
    | some n =>
      rw [e] at hk'
      have g1 := hw.get e
      have hp := g1.k1 hk'
      refine ⟨k0, h0, m0, n.text, rfl, ?_⟩
      obtain ⟨a, b, c⟩ := n
      simp only at hk' hp
      subst hk'
      subst hp
      exact e
theorem openV_at {T : List Nd} {key sealed k0 h0 m0 : Int} {hd s : ByteArray} (e1 : getT T sealed = some ⟨10, ByteArray.empty, [k0, h0, m0]⟩) (e2 : getT T h0 = some (nT hd)) : openV T key s sealed = openT k0 m0 key hd s := by
  unfold openV openT
  rw [e1]
  have e3 : (nodeT T h0).text = hd := by unfold nodeT; rw [e2]; rfl
  simp [nth, e3]

set_option maxHeartbeats 1600000 in
set_option maxRecDepth 100000 in
theorem open_all {B B' tb : Nat} {T : List Nd} (key sealed : Int) (A : Option Addr) (n c : Nat) (xs : List Int) (w : World) (ht : IsTab B w tb T) (hr : Rds B' w .u8 A n c xs) (hs : Fit sealed) :
    Calls Tryd.prog 15 #[.pointer (some ⟨tb, 0, none⟩), .int .i64 key, .slice A n c, .int .i64 sealed] w (OpenPost (openV T key (strOfNums xs) sealed) w) := by
  cases hg : getT T sealed with
  | none =>
    have key1 := look_any sealed w ht hs.1 hs.2
    have HE := Lib.hid (openV_none (key := key) (hd := strOfNums xs) hg)
    have HG := Lib.hid hg
    clear ht hr hs hg
    go_enter Tryd.func15, Tryd.ntmps15
    go_wp2_with fail
    refine key1.mono ?_
    clear key1
    rintro e w1 ⟨A1, c1, rfl, ho1, hb1⟩
    rw [show nodeT T sealed = ⟨0, ByteArray.empty, []⟩ from by unfold nodeT; rw [HG.out]; rfl, HG.out]
    have HB1 := Lib.hid hb1
    have hs1 := hb1.size
    clear ho1 hb1
    go_wp2_with fail
    go_returns
    rw [HE.out]
    exact ⟨rfl, HB1.out.alloc hs1 _⟩
  | some nd =>
    by_cases hk : nd.kind = 10
    · obtain ⟨k0, h0, m0, hd, rfl, e2⟩ := sealed_form ht.1 hg hk
      rw [openV_at hg e2]
      exact open_any key sealed k0 h0 m0 hd A n c xs w ht hg e2 hr
    · have key1 := look_node sealed nd w ht hg
      have HE := Lib.hid (openV_kind (key := key) (hd := strOfNums xs) hg hk)
      have hkb : (nd.kind != 10) = true := by simp [hk]
      clear ht hr hs hg hk
      go_enter Tryd.func15, Tryd.ntmps15
      go_wp2_with fail
      refine key1.mono ?_
      clear key1
      rintro e w1 ⟨A1, c1, rfl, ho1, hb1⟩
      have HB1 := Lib.hid hb1
      have hs1 := hb1.size
      clear ho1 hb1
      go_wp2_with fail
      go_returns
      rw [HE.out]
      exact ⟨rfl, HB1.out.alloc hs1 _⟩
end Go.Proofs.YtmaedahleenlgaaDoor
