/- What Early, Signed, maced, Finishes, Binds do; what the functions of layer 15 make of terms that are there. No condition. -/
import Derived.Test.YtomopjpfdmpgpaaSched
set_option linter.unusedVariables false
set_option linter.unusedSimpArgs false
namespace Go.Proofs.Ytomopjpfdmpgpaa
open Go Go.RowKit Go.WideMaps

def noneL : List Int := [110, 111, 110, 101]
theorem none_str : strOfNums noneL = lbNone := by decide
def proofL : List Int := [115, 101, 114, 118, 101, 114, 32, 112, 114, 111, 111, 102]
theorem proof_str : strOfNums proofL = lbServerProof := by decide

set_option maxHeartbeats 800000 in
set_option maxRecDepth 100000 in
theorem early_any {B tb : Nat} {T : List Nd} (h : Int) (w : World) (ht : IsTab B w tb T) (hf : Fit h) : Calls Try.prog 23 #[.pointer (some ⟨tb, 0, none⟩), .int .i64 h] w (TabPost B tb w (earlyT T h)) := by
  by_cases hz : h = 0
  · subst hz
    have HTl := Lib.hid ht.1.len
    have hconv := Lib.hid (run_const_bytes w #[.int .u8 110, .int .u8 111, .int .u8 110, .int .u8 101] 4 4)
    obtain ⟨W, hW⟩ : ∃ W, W = w.alloc (.cells #[.int .u8 110, .int .u8 111, .int .u8 110, .int .u8 101] 5 (4, 5)) := ⟨_, rfl⟩
    have hr : Rds 0 W .u8 (some ⟨w.heap.size, 0, none⟩) 4 4 noneL := by
      rw [hW]
      exact rds_marked (xs := noneL) (t := 5) (4, 5) rfl (by decide) _ rfl 4 rfl (by decide)
    have hbW : Below w.heap.size w W := by rw [hW]; exact below_new _
    have key := text_any (some ⟨w.heap.size, 0, none⟩) 4 4 noneL W (ht.below hbW) hr
    rw [none_str] at key
    have HBW := Lib.hid hbW
    clear ht hr hbW
    go_enter Try.func23, Try.ntmps23
    go_wp2_with ((with_reducible show wpList _ _ _ (Oper.mk _ (Op.convert 22 22 _) _ _ _ _ :: _) _ _); refine wp_convert rfl _ _ _ rfl rfl hconv.out ?_)
    rw [← hW]
    clear hW
    refine key.mono ?_
    clear key
    rintro e w1 p1
    have r1 := Lib.hid (textT_range (T := T) (b := lbNone) HTl.out)
    obtain ⟨T1, h1, e1, rfl, ht1, hf1⟩ := TabPost.of (Frm.of_below HBW.out) p1
    rw [e1] at r1
    have E1 : Hid (noneT T 0 = (T1, h1)) := e1
    have HF1 := Lib.hid hf1
    have key := of_any lbEarly h1 0 w1 ht1 (fit_of r1.out) (fit_of (by omega)) (by decide)
    clear p1 e1 ht1 hf1
    go_wp2_with fail
    refine key.mono ?_
    clear key
    rintro e w3 p3
    have P3 := Lib.hid (tabPost_next HF1.out p3)
    obtain ⟨rfl, -, -⟩ := p3
    go_wp2_with fail
    go_ret
    have := P3.out
    unfold earlyT
    rw [E1.out]
    exact this
  · have hb : (h == 0) = false := by simp [hz]
    have E1 : Hid (noneT T h = (T, h)) := if_neg hz
    have key := of_any lbEarly h 0 w ht hf (fit_of (by omega)) (by decide)
    clear ht hz
    go_enter Try.func23, Try.ntmps23
    go_wp2_with fail
    refine key.mono ?_
    clear key
    rintro e w3 p3
    have P3 := Lib.hid p3
    obtain ⟨rfl, -, -⟩ := p3
    go_wp2_with fail
    go_ret
    have := P3.out
    unfold earlyT
    rw [E1.out]
    exact this


def MacedPost (r : Bool) (w : World) (e : Ending) (w' : World) : Prop := e = .returned (.bool r) ∧ Below w.heap.size w w'

def askT (T : List Nd) (l : ByteArray) (k tr m : Int) : List Nd × Bool := ((deriveT T k l 0).1, macedT (deriveT T k l 0).1 (deriveT T k l 0).2 tr m)
def AskPost (B tb : Nat) (w : World) (r : List Nd × Bool) (e : Ending) (w' : World) : Prop := e = .returned (.bool r.2) ∧ IsTab B w' tb r.1 ∧ Frm tabO B w w'
theorem AskPost.intro {B tb : Nat} {w w' : World} {T : List Nd} {b : Bool} {r : List Nd × Bool} {e : Ending} (hr : r = (T, b)) (p : AskPost B tb w r e w') : e = .returned (.bool b) ∧ IsTab B w' tb T ∧ Frm tabO B w w' := by
  subst hr; exact p






/-! ### Of terms that are there -/
theorem behind_spec {T : List Nd} {s tr : Int} {l : ByteArray} (hw : WfT T) (hl : l.size ≤ 2048) (hT : T.length < 60000) (hs : In T s) (hc : In T tr) :
    DerAt (behindT T l s tr).1 (behindT T l s tr).2 s l tr ∧ Ext 3 T (behindT T l s tr).1 := by
  have := hc.range
  unfold behindT
  rw [if_neg (by omega)]
  exact der_ctx hw hl hT hs hc
theorem deriveT_wf {T : List Nd} (hw : WfT T) (s : Int) (l : ByteArray) (c : Int) : WfT (deriveT T s l c).1 := by
  unfold deriveT
  refine wf_make (wf_text ?_ l) _ _
  unfold ctxT
  split
  · exact wf_text hw _
  · exact hw
theorem behindT_wf {T : List Nd} (hw : WfT T) (l : ByteArray) (s tr : Int) : WfT (behindT T l s tr).1 := by
  unfold behindT
  split
  · exact hw
  · exact deriveT_wf hw _ _ _
theorem behindT_ext (T : List Nd) (l : ByteArray) (s tr : Int) : Ext 3 T (behindT T l s tr).1 := by
  unfold behindT
  split
  · exact (Ext.refl _).mono (by omega)
  · exact deriveT_ext _ _ _ _
theorem pair_spec {T : List Nd} {s tr : Int} {l1 l2 : ByteArray} (hw : WfT T) (hl1 : l1.size ≤ 2048) (hl2 : l2.size ≤ 2048) (hT : T.length < 50000) (hs : In T s) (hc : In T tr) :
    DerAt (pairT T l1 l2 s tr).1 (pairT T l1 l2 s tr).2.1 s l1 tr ∧ DerAt (pairT T l1 l2 s tr).1 (pairT T l1 l2 s tr).2.2 s l2 tr ∧ Ext 6 T (pairT T l1 l2 s tr).1 := by
  obtain ⟨d1, x1⟩ := behind_spec (l := l1) hw hl1 (by omega) hs hc
  have := x1.len
  obtain ⟨d2, x2⟩ := behind_spec (T := (behindT T l1 s tr).1) (l := l2) (behindT_wf hw _ _ _) hl2 (by omega) (hs.ext x1) (hc.ext x1)
  exact ⟨d1.ext x2, d2, x1.trans x2⟩
theorem early_spec {T : List Nd} {h : Int} (hw : WfT T) (hT : T.length < 50000) (hh : h = 0 ∨ In T h) :
    ∃ own, (h ≠ 0 → own = h) ∧ (h = 0 → getT (earlyT T h).1 own = some (nT lbNone)) ∧ Der0 (earlyT T h).1 (earlyT T h).2 own lbEarly ∧ Ext 4 T (earlyT T h).1 := by
  unfold earlyT noneT
  by_cases hz : h = 0
  · rw [if_pos hz]
    have h1 := text_get (T := T) (b := lbNone) (by decide) (by omega)
    have e1 := textT_ext T lbNone
    have := e1.len
    obtain ⟨d, x⟩ := der_zero (l := lbEarly) (wf_text hw lbNone) (by decide) (by omega) (.of h1)
    exact ⟨_, fun k => absurd hz k, fun _ => x.get h1, d, (e1.trans x).mono (by omega)⟩
  · rw [if_neg hz]
    obtain ⟨d, x⟩ := der_zero (l := lbEarly) hw (by decide) (by omega) (hh.resolve_left hz)
    exact ⟨h, fun _ => rfl, fun k => absurd k hz, d, x.mono (by omega)⟩
theorem earlyT_wf {T : List Nd} (hw : WfT T) (h : Int) : WfT (earlyT T h).1 := by
  unfold earlyT noneT
  refine deriveT_wf ?_ _ _ _
  split
  · exact wf_text hw _
  · exact hw
theorem shaken_spec {T : List Nd} {e s : Int} (hw : WfT T) (hT : T.length < 50000) (he : In T e) (hs : In T s) :
    ∃ r, getT (shakenT T e s).1 r = some ⟨3, ByteArray.empty, [e, s]⟩ ∧ Der0 (shakenT T e s).1 (shakenT T e s).2 r lbHandshake ∧ Ext 4 T (shakenT T e s).1 := by
  have h1 := make_row hw (by omega) (p := [e, s]) (by simp; exact ⟨he, hs⟩) (by simp)
  have e1 := makeT_ext T 3 [e, s]
  have := e1.len
  obtain ⟨d, x⟩ := der_zero (l := lbHandshake) (wf_make hw 3 [e, s]) (by decide) (by omega) (.of h1)
  exact ⟨_, x.get h1, d, (e1.trans x).mono (by omega)⟩
theorem mac_spec {T : List Nd} {k tr : Int} {l : ByteArray} (hw : WfT T) (hl : l.size ≤ 2048) (hT : T.length < 50000) (hk : In T k) (hc : In T tr) :
    ∃ d, Der0 (macT T l k tr).1 d k l ∧ getT (macT T l k tr).1 (macT T l k tr).2 = some ⟨5, ByteArray.empty, [d, tr]⟩ ∧ Ext 4 T (macT T l k tr).1 := by
  obtain ⟨d, x⟩ := der_zero (l := l) hw hl (by omega) hk
  have := x.len
  have h2 := make_mac (deriveT_wf hw k l 0) (by omega) d.in_ (hc.ext x)
  have e2 := makeT_ext (deriveT T k l 0).1 5 [(deriveT T k l 0).2, tr]
  exact ⟨_, d.ext e2, h2, (x.trans e2).mono (by omega)⟩
theorem macT_wf {T : List Nd} (hw : WfT T) (l : ByteArray) (k tr : Int) : WfT (macT T l k tr).1 := wf_make (deriveT_wf hw _ _ _) _ _
theorem signed_spec {T : List Nd} {tr : Int} (hw : WfT T) (hT : T.length < 50000) (hc : In T tr) :
    ∃ x, getT (signedT T tr).1 x = some (nT lbServerProof) ∧ getT (signedT T tr).1 (signedT T tr).2 = some ⟨3, ByteArray.empty, [x, tr]⟩ ∧ Ext 2 T (signedT T tr).1 := by
  have h1 := text_get (T := T) (b := lbServerProof) (by decide) (by omega)
  have e1 := textT_ext T lbServerProof
  have := e1.len
  have h2 := make_row (wf_text hw lbServerProof) (by omega) (p := [(textT T lbServerProof).2, tr]) (by simp; exact ⟨.of h1, hc.ext e1⟩) (by simp)
  have e2 := makeT_ext (textT T lbServerProof).1 3 [(textT T lbServerProof).2, tr]
  exact ⟨_, e2.get h1, h2, (e1.trans e2).mono (by omega)⟩
theorem first_spec {T : List Nd} {g : ByteArray} (hw : WfT T) (hg : g.size ≤ 2048) (hT : T.length < 50000) :
    ∃ x, getT (firstT T g).1 x = some (nT g) ∧ Der0 (firstT T g).1 (firstT T g).2.1 x lbClientIn ∧ Der0 (firstT T g).1 (firstT T g).2.2 x lbServerIn ∧ Ext 7 T (firstT T g).1 := by
  have h1 := text_get (T := T) (b := g) hg (by omega)
  have e1 := textT_ext T g
  have := e1.len
  obtain ⟨d1, x1⟩ := der_zero (l := lbClientIn) (wf_text hw g) (by decide) (by omega) (.of h1)
  have := x1.len
  obtain ⟨d2, x2⟩ := der_zero (l := lbServerIn) (deriveT_wf (wf_text hw g) (textT T g).2 lbClientIn 0) (by decide) (by omega) (.of (x1.get h1))
  exact ⟨_, x2.get (x1.get h1), d1.ext x2, d2, ((e1.trans x1).trans x2).mono (by omega)⟩
/-- What is no mac there is none. -/
theorem maced_out {T : List Nd} {k tr m : Int} (h : ¬ In T m) : macedT T k tr m = false := by
  unfold macedT
  cases e : getT T m with
  | none => rfl
  | some n => exact absurd ⟨n, e⟩ h
theorem maced_at {T : List Nd} {k tr m d c : Int} (h : getT T m = some ⟨5, ByteArray.empty, [d, c]⟩) : macedT T k tr m = decide (d = k ∧ c = tr) := by
  unfold macedT
  rw [h]
  simp [nth]
end Go.Proofs.Ytomopjpfdmpgpaa
