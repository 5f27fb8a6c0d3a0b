/- A mind between calls; its Learn and Can (layer 3). No condition. -/
import Derived.Test.YtmaedahleenlgaaKnow9
set_option linter.unusedVariables false
set_option linter.unusedSimpArgs false
namespace Go.Proofs.Ytmaedahleenlgaa
open Go Go.RowKit

/-- Does it follow (true), can it be made (false)? -/
noncomputable def knB (T : List Nd) (S : Int → Prop) (b : Bool) (h : Int) : Bool := @decide (Kn T S b h) (Classical.propDecidable _)
theorem knB_true {T : List Nd} {S : Int → Prop} {b : Bool} {h : Int} : knB T S b h = true ↔ Kn T S b h := by unfold knB; exact @decide_eq_true_iff _ (Classical.propDecidable _)
theorem knB_eq {T T' : List Nd} {S S' : Int → Prop} {b b' : Bool} {h h' : Int} (q : Kn T S b h ↔ Kn T' S' b' h') : knB T S b h = knB T' S' b' h' := by
  rw [Bool.eq_iff_iff, knB_true, knB_true]; exact q
theorem knB_of {c : Bool} {T : List Nd} {S : Int → Prop} {b : Bool} {h : Int} (q : c = true ↔ Kn T S b h) : c = knB T S b h := by rw [Bool.eq_iff_iff, knB_true]; exact q
/-- All that follow, in order. -/
noncomputable def knL (T : List Nd) (S : Int → Prop) : List Int := ((List.range T.length).map fun i : Nat => (i : Int) + 1).filter (knB T S true)

/-- A mind stands in memory, and says what follows of S. -/
def MindV (B : Nat) (w : World) (mb : Nat) (tp : Option Addr) (v1 v2 : Value) (T : List Nd) (S : Int → Prop) : Prop :=
  ∃ F C size fresh, MindAt B w mb tp v1 v2 F C size fresh ∧ MOk T S F C size fresh
structure KStep (B : Nat) (w : World) (mb : Nat) (tp : Option Addr) (v1 v2 u1 u2 : Value) (T : List Nd) (S : Int → Prop) (w' : World) : Prop where
  m : MindV B w' mb tp u1 u2 T S
  fr : MFrm (mS mb v1 v2) w w'
  o1 : ∀ g, u1.ownBlock = some g → v1.ownBlock = some g ∨ w.heap.size ≤ g
  o2 : ∀ g, u2.ownBlock = some g → v2.ownBlock = some g ∨ w.heap.size ≤ g
theorem KStep.of {B : Nat} {w : World} {mb : Nat} {tp : Option Addr} {v1 v2 u1 u2 : Value} {T : List Nd} {S : Int → Prop} {F C : List Bool} {size : Nat} {fresh : Bool} {w' : World} (h : MStep B w mb tp v1 v2 u1 u2 F C size fresh w') (k : MOk T S F C size fresh) : KStep B w mb tp v1 v2 u1 u2 T S w' :=
  ⟨⟨F, C, size, fresh, h.at_, k⟩, h.fr, h.o1, h.o2⟩
theorem MindV.sub {B : Nat} {w : World} {mb : Nat} {tp : Option Addr} {v1 v2 : Value} {T : List Nd} {S : Int → Prop} (h : MindV B w mb tp v1 v2 T S) : ∀ k, mS mb v1 v2 k → B ≤ k ∧ k < w.heap.size := by
  obtain ⟨F, C, size, fresh, h, -⟩ := h
  exact h.sub
theorem MindV.keep {B : Nat} {w w' : World} {mb : Nat} {tp : Option Addr} {v1 v2 : Value} {T : List Nd} {S : Int → Prop} (h : MindV B w mb tp v1 v2 T S) (hk : ∀ k, mS mb v1 v2 k → w'.heap[k]? = w.heap[k]?) : MindV B w' mb tp v1 v2 T S := by
  obtain ⟨F, C, size, fresh, h, k⟩ := h
  exact ⟨F, C, size, fresh, h.keep hk, k⟩
theorem MindV.below {B : Nat} {w w' : World} {mb : Nat} {tp : Option Addr} {v1 v2 : Value} {T : List Nd} {S : Int → Prop} (h : MindV B w mb tp v1 v2 T S) (hb : Below w.heap.size w w') : MindV B w' mb tp v1 v2 T S := h.keep fun k hk => hb.block k (h.sub k hk).2
theorem MindV.frm {Cq : Obj → Bool} {B B' : Nat} {w w' : World} {mb : Nat} {tp : Option Addr} {v1 v2 : Value} {T : List Nd} {S : Int → Prop} (h : MindV B w mb tp v1 v2 T S) (hf : Frm Cq B' w w') (hc : ∀ o, mndO o = true → Cq o = false) : MindV B w' mb tp v1 v2 T S := by
  obtain ⟨F, C, size, fresh, h, k⟩ := h
  exact ⟨F, C, size, fresh, h.frm hf hc, k⟩
theorem MindV.grow {B : Nat} {w : World} {mb : Nat} {tp : Option Addr} {v1 v2 : Value} {T : List Nd} {S : Int → Prop} (h : MindV B w mb tp v1 v2 T S) (T' : List Nd) (hw : WfT (T ++ T')) : MindV B w mb tp v1 v2 (T ++ T') S := by
  obtain ⟨F, C, size, fresh, h, k⟩ := h
  exact ⟨F, C, size, fresh, h, k.grow T' hw⟩
theorem MindV.iff {B : Nat} {w : World} {mb : Nat} {tp : Option Addr} {v1 v2 : Value} {T : List Nd} {S S' : Int → Prop} (h : MindV B w mb tp v1 v2 T S) (hS : ∀ x, S x ↔ S' x) : MindV B w mb tp v1 v2 T S' := by
  obtain ⟨F, C, size, fresh, h, k⟩ := h
  exact ⟨F, C, size, fresh, h, k.iff hS⟩
theorem MindV.wf {B : Nat} {w : World} {mb : Nat} {tp : Option Addr} {v1 v2 : Value} {T : List Nd} {S : Int → Prop} (h : MindV B w mb tp v1 v2 T S) : WfT T := by
  obtain ⟨F, C, size, fresh, h, k⟩ := h
  exact k.wf
theorem MindV.base {B : Nat} {w : World} {mb : Nat} {tp : Option Addr} {v1 v2 : Value} {T : List Nd} {S : Int → Prop} (h : MindV B w mb tp v1 v2 T S) : B ≤ w.heap.size := Nat.le_of_lt (Nat.lt_of_le_of_lt (h.sub mb (.inl rfl)).1 (h.sub mb (.inl rfl)).2)
/-- What a mind's call turns: blocks of its own kinds, none below B. -/
theorem KStep.frm {B : Nat} {w : World} {mb : Nat} {tp : Option Addr} {v1 v2 u1 u2 : Value} {T T0 : List Nd} {S S0 : Int → Prop} {w' : World} (h : KStep B w mb tp v1 v2 u1 u2 T S w') (hm : MindV B w mb tp v1 v2 T0 S0) : Frm mndO B w w' := by
  obtain ⟨F, C, size, fresh, hm, -⟩ := hm
  exact hm.mfrm h.fr
theorem KStep.below {B : Nat} {w : World} {mb : Nat} {tp : Option Addr} {v1 v2 u1 u2 : Value} {T T0 : List Nd} {S S0 : Int → Prop} {w' : World} (h : KStep B w mb tp v1 v2 u1 u2 T S w') (hm : MindV B w mb tp v1 v2 T0 S0) : Below B w w' := h.fr.below hm.base fun i q => (hm.sub i q).1
theorem MindV.new {B : Nat} {w : World} {mb : Nat} {tp : Option Addr} {T : List Nd} (hw : WfT T) (h : MindAt B w mb tp (.slice none 0 0) (.slice none 0 0) [] [] 0 false) : MindV B w mb tp (.slice none 0 0) (.slice none 0 0) T (fun _ => False) := ⟨_, _, _, _, h, MOk.nil hw⟩

theorem vlearn_any {B mb : Nat} {tp : Option Addr} {v1 v2 : Value} {T : List Nd} {S : Int → Prop} (l : List Int) (A : Option Addr) (c : Nat) (w : World) (hm : MindV B w mb tp v1 v2 T S) (ht : TabAt B w tp T) (hr : Rds 0 w .i64 A l.length c l) (hln : l.length ≤ 1000000) :
    Calls Try.prog 13 #[.pointer (some ⟨mb, 0, none⟩), .slice A l.length c] w fun e w' => e = .returned (.tuple #[]) ∧ ∃ u1 u2, KStep B w mb tp v1 v2 u1 u2 T (fun q => S q ∨ inT T l q) w' := by
  obtain ⟨F, C, size, fresh, h, k⟩ := hm
  refine (klearn_any l A c w h ht k.len k.le hr hln).mono ?_
  rintro e w' ⟨rfl, u1, u2, hs⟩
  exact ⟨rfl, u1, u2, .of hs (k.growL.learns l (growL_len k.le))⟩
theorem vlook_any {B mb : Nat} {tp : Option Addr} {v1 v2 : Value} {T : List Nd} {S : Int → Prop} (w : World) (hm : MindV B w mb tp v1 v2 T S) (ht : TabAt B w tp T) :
    Calls Try.prog 33 #[.pointer (some ⟨mb, 0, none⟩)] w fun e w' => e = .returned (.tuple #[]) ∧ ∃ u1 u2 F C, DoneK T S F C ∧ (∀ h, S h → 1 ≤ h ∧ h ≤ T.length) ∧ MStep B w mb tp v1 v2 u1 u2 F C T.length true w' := by
  obtain ⟨F, C, size, fresh, h, k⟩ := hm
  refine (klook_any S w h ht k.len k.le k.sd (fun h _ _ q => k.bs h q) k.dn).mono ?_
  rintro e w' ⟨rfl, u1, u2, F', C', hd, hs⟩
  exact ⟨rfl, u1, u2, F', C', hd, k.rg, hs⟩
set_option maxHeartbeats 1600000 in
theorem vcan_any {B mb : Nat} {tp : Option Addr} {v1 v2 : Value} {T : List Nd} {S : Int → Prop} (h : Int) (hh : h ≤ 9223372036854775807) (w : World) (hm : MindV B w mb tp v1 v2 T S) (ht : TabAt B w tp T) :
    Calls Try.prog 17 #[.pointer (some ⟨mb, 0, none⟩), .int .i64 h] w fun e w' => e = .returned (.bool (knB T S false h)) ∧ ∃ u1 u2, KStep B w mb tp v1 v2 u1 u2 T S w' := by
  have HW := Lib.hid hm.wf
  have key : Calls Try.prog 33 #[.pointer (some ⟨mb, 0, none⟩)] w fun e w' => e = .returned (.tuple #[]) ∧ ∃ u1 u2 C, w'.cell? ⟨mb, 2, none⟩ = some u2 ∧ Hid (OwnB w' B u2 C) ∧ Hid (isB C h = knB T S false h) ∧ Hid (KStep B w mb tp v1 v2 u1 u2 T S w') := by
    refine (vlook_any w hm ht).mono ?_
    rintro e w' ⟨rfl, u1, u2, F, C, hd, hrg, hs⟩
    refine ⟨rfl, u1, u2, C, hs.at_.cells.2.2.1, hs.at_.c, ?_, .of hs (.of_done HW.out hrg hd)⟩
    refine knB_of ?_
    unfold isB
    by_cases h1 : 1 ≤ h
    · rw [decide_eq_true (show 0 < h by omega), Bool.true_and]; exact hd.can h h1
    · rw [decide_eq_false (show ¬ 0 < h by omega), Bool.false_and]
      exact ⟨fun q => (by cases q), fun q => (by have := (Kn.there HW.out q).1; omega)⟩
  clear hm ht
  generalize knB T S false h = b at *
  go_enter Try.func17, Try.ntmps17
  go_wp2_with fail
  refine key.mono ?_
  clear key
  rintro e w1 ⟨rfl, u1, u2, C, c2, HO, HI, HK⟩
  go_wp2_with fail
  refine (is_any u2 C h w1 HO.out hh).mono ?_
  rintro e w2 ⟨rfl, rfl⟩
  rw [HI.out]
  go_wp2_with fail
  go_ret
  exact ⟨rfl, u1, u2, HK.out⟩
end Go.Proofs.Ytmaedahleenlgaa
