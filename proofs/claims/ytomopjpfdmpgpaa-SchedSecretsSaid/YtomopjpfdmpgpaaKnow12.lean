/- Own texts, one behind the other. Each bears its own remark. -/
import Derived.Test.YtomopjpfdmpgpaaKnow8
import Derived.Test.YtomopjpfdmpgpaaKnowOk
/- know.Learn, Can (layer 3). No condition. -/
set_option linter.unusedVariables false
set_option linter.unusedSimpArgs false
namespace Go.Proofs.Ytomopjpfdmpgpaa
open Go Go.RowKit

theorem learnL_snoc (n : Nat) (F : List Bool) (l : List Int) (x : Int) : learnL n F (l ++ [x]) = learnF n (learnL n F l) x := by unfold learnL; rw [List.foldl_append]; rfl
theorem learnFr_snoc (n : Nat) (x : Int) : ∀ (l : List Int) (F : List Bool) (fr : Bool), learnFr n F fr (l ++ [x]) = (learnFr n F fr l && !learnB n (learnL n F l) x)
  | [], _, _ => rfl
  | y :: l, F, fr => learnFr_snoc n x l (learnF n F y) (fr && !learnB n F y)
theorem MStep.setF {B : Nat} {w w1 w2 : World} {mb : Nat} {tp : Option Addr} {v1 v2 u1 u2 : Value} {F F' C : List Bool} {size : Nat} {fresh : Bool} (h : MStep B w mb tp v1 v2 u1 u2 F C size fresh w1) (ho : OwnB w2 B u1 F') (hf : MFrm (fun k => u1.ownBlock = some k) w1 w2) :
    MStep B w mb tp v1 v2 u1 u2 F' C size fresh w2 := by
  have hm := h.at_
  refine h.next ⟨⟨(hf.block _ hm.lt fun e => hm.ne.1 _ e rfl).trans hm.blk, ho, hm.c.same fun g e => hf.block g (hm.c.lt g e).2 fun q => hm.apart g q e, hm.apart, hm.base⟩, hf.mono fun i e => .inl (.inr (.inl e)), fun _ e => .inl e, fun _ e => .inl e⟩

set_option maxHeartbeats 6400000 in
set_option maxRecDepth 100000 in
theorem klearn_any {B mb : Nat} {tp : Option Addr} {v1 v2 : Value} {F C : List Bool} {size : Nat} {fresh : Bool} {T : List Nd} (l : List Int) (A : Option Addr) (c : Nat) (w : World) (hm : MindAt B w mb tp v1 v2 F C size fresh) (ht : TabAt B w tp T) (hl : F.length = C.length) (hF : F.length ≤ T.length + 1) (hr : Rds 0 w .i64 A l.length c l) (hln : l.length ≤ 1000000) :
    Calls Try.prog 55 #[.pointer (some ⟨mb, 0, none⟩), .slice A l.length c] w fun e w' => e = .returned (.tuple #[]) ∧ ∃ u1 u2, MStep B w mb tp v1 v2 u1 u2 (learnL T.length (growL F T.length) l) (growL C T.length) T.length (learnFr T.length (growL F T.length) (fresh && decide (T.length = size)) l) w' := by
  have hT := ht.wf.len
  have key0 := mgrow_any w hm ht hl hF
  have hgl := growL_len (l := F) (n := T.length) hF
  generalize growL F T.length = G at *
  generalize growL C T.length = D at *
  generalize (fresh && decide (T.length = size)) = fr at *
  have HR := Lib.hid hr
  have HM := Lib.hid hm
  have key : Calls Try.prog 69 #[.pointer (some ⟨mb, 0, none⟩)] w fun e w1 => e = .returned (.tuple #[]) ∧ ∃ u1 u2, Hid (MStep B w mb tp v1 v2 u1 u2 G D T.length fr w1) ∧ Hid (Rds 0 w1 .i64 A l.length c l) := by
    refine key0.mono ?_
    rintro e w1 ⟨rfl, u1, u2, hs⟩
    exact ⟨rfl, u1, u2, hs, HR.out.mnd0 (HM.out.mfrm hs.fr)⟩
  have hlc := hr.cap
  generalize T.length = n at *
  clear key0 hr hm ht hl hF HR HM
  go_enter Try.func55, Try.ntmps55
  go_wp2_with fail
  refine key.mono ?_
  clear key
  rintro e w1 ⟨rfl, u1, u2, HS, HRD⟩
  go_wp2_with fail
  go_loopw [12] (fun i wr => ∃ j : Nat, j ≤ l.length ∧ i = .int .i64 j ∧ Hid (MStep B w mb tp v1 v2 u1 u2 (learnL n G (l.take j)) D n (learnFr n G fr (l.take j)) wr) ∧ Hid (Rds 0 wr .i64 A l.length c l)) (fun i wr => l.length - (intOf i).toNat)
  case atStart => exact ⟨0, Nat.zero_le _, rfl, HS, HRD⟩
  case round =>
    obtain ⟨j, hj, rfl, HSj, HLj⟩ := hrel
    by_cases hlt : j < l.length
    rotate_left
    · obtain rfl : j = l.length := by omega
      have q := HSj.out
      rw [List.take_length] at q
      have HQ := Lib.hid q
      clear q
      go_wp2_with fail
      go_end0
      exact ⟨rfl, u1, u2, HQ.out⟩
    obtain ⟨bA, oA, rfl, hcl⟩ := RdI.at_ HLj.out.cell (by omega)
    have a0 := hcl j hlt
    obtain ⟨x, hx⟩ : ∃ x, x = nth l j := ⟨_, rfl⟩
    have hxe : x = l[j] := by rw [hx]; simp [nth, hlt]
    rw [← hx] at a0
    have htk : l.take (j + 1) = l.take j ++ [x] := by rw [List.take_add_one, List.getElem?_eq_getElem hlt, hxe]; rfl
    have HNX : Hid (learnL n G (l.take (j + 1)) = learnF n (learnL n G (l.take j)) x ∧ learnFr n G fr (l.take (j + 1)) = (learnFr n G fr (l.take j) && !learnB n (learnL n G (l.take j)) x)) := by
      show _ ∧ _; rw [htk, learnL_snoc, learnFr_snoc]; exact ⟨rfl, rfl⟩
    have hjl : (learnL n G (l.take j)).length = n + 1 := by rw [learnL_len]; exact hgl
    have hji : (j : Int) < (l.length : Int) := by omega
    clear hcl hx hxe htk
    generalize learnL n G (l.take j) = H at *
    generalize learnFr n G fr (l.take j) = fj at *
    have m3 := HSj.out.at_.cells.2.2.2.1
    have m1 := HSj.out.at_.cells.2.1
    have f4 := HSj.out.at_.free 4
    have m4 := HSj.out.at_.cells.2.2.2.2
    have skip_ : learnB n H x = false → Hid (MStep B w mb tp v1 v2 u1 u2 (learnL n G (l.take (j + 1))) D n (learnFr n G fr (l.take (j + 1))) wr) := fun q => by
      show MStep ..
      rw [HNX.out.1, HNX.out.2, q]
      unfold learnF
      rw [q]
      simpa using HSj.out
    by_cases h0 : 0 < x
    rotate_left
    · have HK := skip_ (by unfold learnB; rw [decide_eq_false h0]; rfl)
      clear skip_ HSj HNX
      go_wp2_with fail
      go_roundw
      case rel => exact ⟨j + 1, by omega, by go_num, HK, HLj⟩
      case measure => simp [intOf]; omega
    by_cases h1 : x ≤ (n : Int)
    rotate_left
    · have HK := skip_ (by unfold learnB; rw [decide_eq_false h1]; simp)
      clear skip_ HSj HNX
      go_wp2_with fail
      go_roundw
      case rel => exact ⟨j + 1, by omega, by go_num, HK, HLj⟩
      case measure => simp [intOf]; omega
    obtain ⟨k, rfl⟩ : ∃ k : Nat, x = k := ⟨x.toNat, by omega⟩
    obtain ⟨gF, capF, eF, -, hgF, hcF, -, hcell, hfree, hset⟩ := HSj.out.at_.f.form (by omega)
    have q1 := hcell k (by omega)
    have q2 := hfree k
    have HST := Lib.hid (hset k true (by omega))
    have hgm : gF ≠ mb := HSj.out.at_.ne.1 gF (by rw [eF]; rfl)
    rw [eF] at m1
    have hkl : (k : Int) < (H.length : Int) := by omega
    obtain ⟨b, hb⟩ : ∃ b, b = bget H (k : Int) := ⟨_, rfl⟩
    have hb' : H.getD k false = b := by rw [hb]; unfold bget; rw [Int.toNat_natCast]
    rw [hb'] at q1
    have HB := Lib.hid hb
    cases b with
    | true =>
      have HK := skip_ (by unfold learnB; rw [← hb]; simp)
      clear skip_ HSj HNX hcell hfree hset hb hb' HST eF
      go_wp2_with fail
      go_roundw
      case rel => exact ⟨j + 1, by omega, by go_num, HK, HLj⟩
      case measure => simp [intOf]; omega
    | false =>
      have hlb : learnB n H (k : Int) = true := by unfold learnB; rw [← hb, decide_eq_true h0, decide_eq_true h1]; rfl
      have hf1 : MFrm (fun i => u1.ownBlock = some i) wr (wr.setCell ⟨gF, k, none⟩ (.bool true)) := MFrm.set _ _ _ (by rw [eF]; rfl)
      have ho1 : OwnB (wr.setCell ⟨gF, k, none⟩ (.bool true)) B u1 (bset H (k : Int)) := by unfold bset; rw [Int.toNat_natCast]; exact hset k true (by omega)
      have hm1 := HSj.out.setF ho1 hf1
      have hfr1 : Frm mndO B wr (wr.setCell ⟨gF, k, none⟩ (.bool true)) := HSj.out.at_.mfrm (hf1.mono fun i e => .inl (.inr (.inl e)))
      have hfr2 := hm1.at_.mfrm (MFrm.set (S := mS mb u1 u2) _ ⟨mb, 4, none⟩ (.bool false) (.inl rfl))
      have HK : Hid (MStep B w mb tp v1 v2 u1 u2 (learnL n G (l.take (j + 1))) D n (learnFr n G fr (l.take (j + 1))) ((wr.setCell ⟨gF, k, none⟩ (.bool true)).setCell ⟨mb, 4, none⟩ (.bool false))) := by
        show MStep ..
        rw [HNX.out.1, HNX.out.2, hlb]
        unfold learnF
        rw [hlb]
        simpa using hm1.fresh false
      have HKL : Hid (Rds 0 ((wr.setCell ⟨gF, k, none⟩ (.bool true)).setCell ⟨mb, 4, none⟩ (.bool false)) .i64 (some ⟨bA, oA, none⟩) l.length c l) := (HLj.out.mnd0 hfr1).mnd0 hfr2
      clear skip_ HSj HNX hcell hfree hset hb hb' HST hf1 ho1 hm1 hfr1 hfr2 hlb eF HLj
      go_wp2_with fail
      go_roundw
      case rel => exact ⟨j + 1, by omega, by go_num, HK, HKL⟩
      case measure => simp [intOf]; omega
end Go.Proofs.Ytomopjpfdmpgpaa

/- A mind between calls; its Learn and Can (layer 3). No condition. -/
set_option linter.unusedVariables false
set_option linter.unusedSimpArgs false
namespace Go.Proofs.Ytomopjpfdmpgpaa
open Go Go.RowKit

/-- Does it follow (true), can it be made (false)? -/
noncomputable def knB (T : List Nd) (S : Int → Prop) (b : Bool) (h : Int) : Bool := @decide (Kn T S b h) (Classical.propDecidable _)
theorem knB_true {T : List Nd} {S : Int → Prop} {b : Bool} {h : Int} : knB T S b h = true ↔ Kn T S b h := by unfold knB; exact @decide_eq_true_iff _ (Classical.propDecidable _)
theorem knB_eq {T T' : List Nd} {S S' : Int → Prop} {b b' : Bool} {h h' : Int} (q : Kn T S b h ↔ Kn T' S' b' h') : knB T S b h = knB T' S' b' h' := by
  rw [Bool.eq_iff_iff, knB_true, knB_true]; exact q
theorem knB_of {c : Bool} {T : List Nd} {S : Int → Prop} {b : Bool} {h : Int} (q : c = true ↔ Kn T S b h) : c = knB T S b h := by rw [Bool.eq_iff_iff, knB_true]; exact q
/-- All that follow, in order. -/
noncomputable def knL (T : List Nd) (S : Int → Prop) : List Int := ((List.range T.length).map fun i : Nat => (i : Int) + 1).filter (knB T S true)

/-- A mind stands in memory, and says what follows of S. -/
def MindV (B : Nat) (w : World) (mb : Nat) (tp : Option Addr) (v1 v2 : Value) (T : List Nd) (S : Int → Prop) : Prop :=
  ∃ F C size fresh, MindAt B w mb tp v1 v2 F C size fresh ∧ MOk T S F C size fresh
structure KStep (B : Nat) (w : World) (mb : Nat) (tp : Option Addr) (v1 v2 u1 u2 : Value) (T : List Nd) (S : Int → Prop) (w' : World) : Prop where
  m : MindV B w' mb tp u1 u2 T S
  fr : MFrm (mS mb v1 v2) w w'
  o1 : ∀ g, u1.ownBlock = some g → v1.ownBlock = some g ∨ w.heap.size ≤ g
  o2 : ∀ g, u2.ownBlock = some g → v2.ownBlock = some g ∨ w.heap.size ≤ g
theorem KStep.of {B : Nat} {w : World} {mb : Nat} {tp : Option Addr} {v1 v2 u1 u2 : Value} {T : List Nd} {S : Int → Prop} {F C : List Bool} {size : Nat} {fresh : Bool} {w' : World} (h : MStep B w mb tp v1 v2 u1 u2 F C size fresh w') (k : MOk T S F C size fresh) : KStep B w mb tp v1 v2 u1 u2 T S w' :=
  ⟨⟨F, C, size, fresh, h.at_, k⟩, h.fr, h.o1, h.o2⟩
theorem MindV.sub {B : Nat} {w : World} {mb : Nat} {tp : Option Addr} {v1 v2 : Value} {T : List Nd} {S : Int → Prop} (h : MindV B w mb tp v1 v2 T S) : ∀ k, mS mb v1 v2 k → B ≤ k ∧ k < w.heap.size := by
  obtain ⟨F, C, size, fresh, h, -⟩ := h
  exact h.sub
theorem MindV.keep {B : Nat} {w w' : World} {mb : Nat} {tp : Option Addr} {v1 v2 : Value} {T : List Nd} {S : Int → Prop} (h : MindV B w mb tp v1 v2 T S) (hk : ∀ k, mS mb v1 v2 k → w'.heap[k]? = w.heap[k]?) : MindV B w' mb tp v1 v2 T S := by
  obtain ⟨F, C, size, fresh, h, k⟩ := h
  exact ⟨F, C, size, fresh, h.keep hk, k⟩
theorem MindV.below {B : Nat} {w w' : World} {mb : Nat} {tp : Option Addr} {v1 v2 : Value} {T : List Nd} {S : Int → Prop} (h : MindV B w mb tp v1 v2 T S) (hb : Below w.heap.size w w') : MindV B w' mb tp v1 v2 T S := h.keep fun k hk => hb.block k (h.sub k hk).2
theorem MindV.frm {Cq : Obj → Bool} {B B' : Nat} {w w' : World} {mb : Nat} {tp : Option Addr} {v1 v2 : Value} {T : List Nd} {S : Int → Prop} (h : MindV B w mb tp v1 v2 T S) (hf : Frm Cq B' w w') (hc : ∀ o, mndO o = true → Cq o = false) : MindV B w' mb tp v1 v2 T S := by
  obtain ⟨F, C, size, fresh, h, k⟩ := h
  exact ⟨F, C, size, fresh, h.frm hf hc, k⟩
theorem MindV.grow {B : Nat} {w : World} {mb : Nat} {tp : Option Addr} {v1 v2 : Value} {T : List Nd} {S : Int → Prop} (h : MindV B w mb tp v1 v2 T S) (T' : List Nd) (hw : WfT (T ++ T')) : MindV B w mb tp v1 v2 (T ++ T') S := by
  obtain ⟨F, C, size, fresh, h, k⟩ := h
  exact ⟨F, C, size, fresh, h, k.grow T' hw⟩
theorem MindV.iff {B : Nat} {w : World} {mb : Nat} {tp : Option Addr} {v1 v2 : Value} {T : List Nd} {S S' : Int → Prop} (h : MindV B w mb tp v1 v2 T S) (hS : ∀ x, S x ↔ S' x) : MindV B w mb tp v1 v2 T S' := by
  obtain ⟨F, C, size, fresh, h, k⟩ := h
  exact ⟨F, C, size, fresh, h, k.iff hS⟩
theorem MindV.wf {B : Nat} {w : World} {mb : Nat} {tp : Option Addr} {v1 v2 : Value} {T : List Nd} {S : Int → Prop} (h : MindV B w mb tp v1 v2 T S) : WfT T := by
  obtain ⟨F, C, size, fresh, h, k⟩ := h
  exact k.wf
theorem MindV.base {B : Nat} {w : World} {mb : Nat} {tp : Option Addr} {v1 v2 : Value} {T : List Nd} {S : Int → Prop} (h : MindV B w mb tp v1 v2 T S) : B ≤ w.heap.size := Nat.le_of_lt (Nat.lt_of_le_of_lt (h.sub mb (.inl rfl)).1 (h.sub mb (.inl rfl)).2)
/-- What a mind's call turns: blocks of its own kinds, none below B. -/
theorem KStep.frm {B : Nat} {w : World} {mb : Nat} {tp : Option Addr} {v1 v2 u1 u2 : Value} {T T0 : List Nd} {S S0 : Int → Prop} {w' : World} (h : KStep B w mb tp v1 v2 u1 u2 T S w') (hm : MindV B w mb tp v1 v2 T0 S0) : Frm mndO B w w' := by
  obtain ⟨F, C, size, fresh, hm, -⟩ := hm
  exact hm.mfrm h.fr
theorem KStep.below {B : Nat} {w : World} {mb : Nat} {tp : Option Addr} {v1 v2 u1 u2 : Value} {T T0 : List Nd} {S S0 : Int → Prop} {w' : World} (h : KStep B w mb tp v1 v2 u1 u2 T S w') (hm : MindV B w mb tp v1 v2 T0 S0) : Below B w w' := h.fr.below hm.base fun i q => (hm.sub i q).1
theorem MindV.new {B : Nat} {w : World} {mb : Nat} {tp : Option Addr} {T : List Nd} (hw : WfT T) (h : MindAt B w mb tp (.slice none 0 0) (.slice none 0 0) [] [] 0 false) : MindV B w mb tp (.slice none 0 0) (.slice none 0 0) T (fun _ => False) := ⟨_, _, _, _, h, MOk.nil hw⟩

theorem vlearn_any {B mb : Nat} {tp : Option Addr} {v1 v2 : Value} {T : List Nd} {S : Int → Prop} (l : List Int) (A : Option Addr) (c : Nat) (w : World) (hm : MindV B w mb tp v1 v2 T S) (ht : TabAt B w tp T) (hr : Rds 0 w .i64 A l.length c l) (hln : l.length ≤ 1000000) :
    Calls Try.prog 55 #[.pointer (some ⟨mb, 0, none⟩), .slice A l.length c] w fun e w' => e = .returned (.tuple #[]) ∧ ∃ u1 u2, KStep B w mb tp v1 v2 u1 u2 T (fun q => S q ∨ inT T l q) w' := by
  obtain ⟨F, C, size, fresh, h, k⟩ := hm
  refine (klearn_any l A c w h ht k.len k.le hr hln).mono ?_
  rintro e w' ⟨rfl, u1, u2, hs⟩
  exact ⟨rfl, u1, u2, .of hs (k.growL.learns l (growL_len k.le))⟩
theorem vlook_any {B mb : Nat} {tp : Option Addr} {v1 v2 : Value} {T : List Nd} {S : Int → Prop} (w : World) (hm : MindV B w mb tp v1 v2 T S) (ht : TabAt B w tp T) :
    Calls Try.prog 70 #[.pointer (some ⟨mb, 0, none⟩)] w fun e w' => e = .returned (.tuple #[]) ∧ ∃ u1 u2 F C, DoneK T S F C ∧ (∀ h, S h → 1 ≤ h ∧ h ≤ T.length) ∧ MStep B w mb tp v1 v2 u1 u2 F C T.length true w' := by
  obtain ⟨F, C, size, fresh, h, k⟩ := hm
  refine (klook_any S w h ht k.len k.le k.sd (fun h _ _ q => k.bs h q) k.dn).mono ?_
  rintro e w' ⟨rfl, u1, u2, F', C', hd, hs⟩
  exact ⟨rfl, u1, u2, F', C', hd, k.rg, hs⟩
set_option maxHeartbeats 1600000 in
theorem vcan_any {B mb : Nat} {tp : Option Addr} {v1 v2 : Value} {T : List Nd} {S : Int → Prop} (h : Int) (hh : h ≤ 9223372036854775807) (w : World) (hm : MindV B w mb tp v1 v2 T S) (ht : TabAt B w tp T) :
    Calls Try.prog 56 #[.pointer (some ⟨mb, 0, none⟩), .int .i64 h] w fun e w' => e = .returned (.bool (knB T S false h)) ∧ ∃ u1 u2, KStep B w mb tp v1 v2 u1 u2 T S w' := by
  have HW := Lib.hid hm.wf
  have key : Calls Try.prog 70 #[.pointer (some ⟨mb, 0, none⟩)] w fun e w' => e = .returned (.tuple #[]) ∧ ∃ u1 u2 C, w'.cell? ⟨mb, 2, none⟩ = some u2 ∧ Hid (OwnB w' B u2 C) ∧ Hid (isB C h = knB T S false h) ∧ Hid (KStep B w mb tp v1 v2 u1 u2 T S w') := by
    refine (vlook_any w hm ht).mono ?_
    rintro e w' ⟨rfl, u1, u2, F, C, hd, hrg, hs⟩
    refine ⟨rfl, u1, u2, C, hs.at_.cells.2.2.1, hs.at_.c, ?_, .of hs (.of_done HW.out hrg hd)⟩
    refine knB_of ?_
    unfold isB
    by_cases h1 : 1 ≤ h
    · rw [decide_eq_true (show 0 < h by omega), Bool.true_and]; exact hd.can h h1
    · rw [decide_eq_false (show ¬ 0 < h by omega), Bool.false_and]
      exact ⟨fun q => (by cases q), fun q => (by have := (Kn.there HW.out q).1; omega)⟩
  clear hm ht
  generalize knB T S false h = b at *
  go_enter Try.func56, Try.ntmps56
  go_wp2_with fail
  refine key.mono ?_
  clear key
  rintro e w1 ⟨rfl, u1, u2, C, c2, HO, HI, HK⟩
  go_wp2_with fail
  refine (kis_any u2 C h w1 HO.out hh).mono ?_
  rintro e w2 ⟨rfl, rfl⟩
  rw [HI.out]
  go_wp2_with fail
  go_ret
  exact ⟨rfl, u1, u2, HK.out⟩
end Go.Proofs.Ytomopjpfdmpgpaa

/- know.Knows (layer 3). No condition. -/
set_option linter.unusedVariables false
set_option linter.unusedSimpArgs false
namespace Go.Proofs.Ytomopjpfdmpgpaa
open Go Go.RowKit
attribute [local go_sem] Oper.semAt_some

def folK (F : List Bool) (k : Nat) : List Int := ((List.range k).map fun i : Nat => (i : Int) + 1).filter (bget F)
theorem folK_succ (F : List Bool) (k : Nat) : folK F (k + 1) = folK F k ++ (if bget F ((k : Int) + 1) then [(k : Int) + 1] else []) := by
  unfold folK
  rw [List.range_succ, List.map_append, List.filter_append]
  congr 1
  simp only [List.map_cons, List.map_nil, List.filter_cons, List.filter_nil]
theorem folK_len (F : List Bool) (k : Nat) : (folK F k).length ≤ k := by
  unfold folK
  refine Nat.le_trans (List.length_filter_le _ _) ?_
  simp
theorem folK_knL {T : List Nd} {S : Int → Prop} {F C : List Bool} (h : DoneK T S F C) : folK F T.length = knL T S := by
  unfold folK knL
  refine List.filter_congr fun x hx => ?_
  obtain ⟨i, -, rfl⟩ := List.mem_map.1 hx
  exact knB_of (h.fol _ (by omega))
/-- What the loop of Knows keeps. -/
structure KnI (Wo : World) (mb : Nat) (F : List Bool) (b2 Bo : Nat) (k : Nat) (W : World) : Prop where
  bl : Below Wo.heap.size Wo W
  y : W.heap[b2]? = some (.cells #[.pointer (some ⟨mb, 0, none⟩)] 93 (0, 0))
  o : ∃ A c, W.heap[Wo.heap.size]? = some (.cells #[.slice A (folK F k).length c] 57 (0, 0)) ∧ OwnI W Bo .i64 (.slice A (folK F k).length c) (folK F k)
  sz : Bo ≤ W.heap.size
theorem KnI.lp {Wo : World} {mb : Nat} {F : List Bool} {b2 Bo k D : Nat} {W W' : World} (h : KnI Wo mb F b2 Bo k W) (hD : Wo.heap.size ≤ D) (hf : Frm lpO D W W') : KnI Wo mb F b2 Bo k W' := by
  obtain ⟨A, c, h1, h2⟩ := h.o
  exact ⟨h.bl.trans ((hf.weak hD).below h.bl.size), cells_lp h.y hf, ⟨A, c, cells_lp h1 hf, h2.frm (hf.mono lpO_sp)⟩, Nat.le_trans h.sz hf.size⟩
/-- append within a fence, by its run. -/
theorem wpIn_app_run {F : Fence} {n : Nat} {P : Program} {w w' : World} {ops : Array Oper} {rest : List Oper} {o : Oper} {a : Act} {Q : Exit → Act → World → Prop} (hg : o.guard = none) (s x : Operand) (t : Nat)
    (ho : o.op = .call { callee := .builtin .append, args := #[s, x], argTypes := #[t, t] }) {v v' : Value} {A : Option Addr} {m c : Nat} (hv : a.eval s = v) (hx : a.eval x = .slice A m c) (hrun : (Builtin.append_ #[t, t] o.type #[v, .slice A m c]).run P w = .ok v' w')
    (h : wpListIn F n P ops Q rest (a.put o.dst v') w') : wpListIn F n P ops Q (o :: rest) a w := by
  refine wpListIn_plain hg fun K hK' => ?_
  unfold Oper.wpIn
  refine ⟨?_, ?_⟩
  · simp [Oper.about, ho, resolve, Target.leads, Sem.run_pure]
  · rw [Oper.semAt_plain F _ _ (by rw [ho]; intro c hc'; cases hc')]
    simp [execOp, ho, resolve, invoke, builtin, hv, hx, hrun, Result.andThen]
    exact hK' _ _ h
theorem OwnI.cells {w : World} {B : Nat} {k : IntKind} {v : Value} {xs : List Int} (h : OwnI w B k v xs) : ∀ g, v.ownBlock = some g → ∃ cur t fr, w.heap[g]? = some (.cells cur t fr) := by
  intro g e
  rcases h with ⟨_, hv⟩ | ⟨g', cap, cur, T, rfl, _, hg, _⟩
  · rw [hv] at e; cases e
  · simp [Value.ownBlock] at e
    subst e
    exact ⟨cur, T, _, hg⟩
theorem KeepLp.of_grown {a b : World} {row : Option Nat} (h : a.grownBy b row) (hc : ∀ g, row = some g → ∃ cur t fr, a.heap[g]? = some (.cells cur t fr)) : KeepLp a b := fun i o hi hl => by
  refine (h.block i (lt_of_get hi) fun e => ?_).trans hi
  obtain ⟨cur, t, fr, hg⟩ := hc i e.symm
  rw [hi] at hg; cases hg; cases hl
theorem KeepLp.set {w : World} {g i : Nat} {cs : Array Value} {t : TypeId} {fr : Nat × Nat} (h : w.heap[g]? = some (.cells cs t fr)) (v : Value) : KeepLp w (w.setCell ⟨g, i, none⟩ v) := fun q o hq hl => by
  refine (mblk_other w v fun e => ?_).trans hq
  subst e
  rw [h] at hq; cases hq; cases hl
/-- The round's item: its number in a slot. -/
def hAx (T : List Nd) (f : Value → Value → Value → Array Value) (k : Nat) (x : TItem) (a : Act) (W : World) : Prop :=
  x.1 = (k : Int) + 1 ∧ ∃ nv, a = { tmps := f (.int .i64 x.1) (.int .i64 x.1) nv, defers := [] }

end Go.Proofs.Ytomopjpfdmpgpaa

/- know.Closed, know.Can; a mind that is not there (layer 3). No condition. -/
set_option linter.unusedVariables false
set_option linter.unusedSimpArgs false
namespace Go.Proofs.Ytomopjpfdmpgpaa
open Go Go.RowKit

theorem KStep.own {B : Nat} {w w' : World} {mb : Nat} {tp : Option Addr} {v1 v2 u1 u2 : Value} {T : List Nd} {S : Int → Prop} {D : Nat} (h : KStep B w mb tp v1 v2 u1 u2 T S w') (hD : D ≤ w.heap.size) (hs : ∀ k, mS mb v1 v2 k → D ≤ k) : Below D w w' ∧ ∀ k, mS mb u1 u2 k → D ≤ k := by
  refine ⟨h.fr.below hD hs, fun k q => ?_⟩
  rcases q with e | e | e
  · exact hs k (.inl e)
  · rcases h.o1 k e with q | q
    · exact hs k (.inr (.inl q))
    · omega
  · rcases h.o2 k e with q | q
    · exact hs k (.inr (.inr q))
    · omega
set_option maxHeartbeats 1600000 in
theorem kcan_any {B : Nat} {tp : Option Addr} {T : List Nd} (l : List Int) (A : Option Addr) (c : Nat) (h : Int) (hh : h ≤ 9223372036854775807) (w : World) (ht : TabAt B w tp T) (hB : B ≤ w.heap.size) (hr : Rds 0 w .i64 A l.length c l) (hln : l.length ≤ 1000000) :
    Calls Try.prog 30 #[.pointer tp, .slice A l.length c, .int .i64 h] w fun e w' => e = .returned (.bool (knB T (inT T l) false h)) ∧ Below w.heap.size w w' := by
  have hwf := ht.wf
  have hl : l.length ≤ c := hr.cap
  go_enter Try.func30, Try.ntmps30
  go_wp2_with fail
  refine (knew_any B tp w hB).mono ?_
  rintro e w1 ⟨rfl, hm, hb1⟩
  have hm1 := MindV.new hwf hm
  have ht1 := ht.below hb1
  have hs1 := hb1.size
  have HB1 := Lib.hid hb1
  go_wp2_with fail
  refine (vlearn_any l A c w1 hm1 ht1 (hr.below hb1) hln).mono ?_
  rintro e w2 ⟨rfl, u1, u2, hk⟩
  have h2 := hk.own hs1 (fun k q => by rcases q with e | e | e; exact Nat.le_of_eq e.symm; cases e; cases e)
  have ht2 := ht1.mnd (hk.frm hm1)
  have hm2 := hk.m.iff (S' := inT T l) fun x => ⟨fun q => q.elim (fun f => f.elim) id, .inr⟩
  have HB2 := Lib.hid h2
  go_wp2_with fail
  refine (vcan_any h hh w2 hm2 ht2).mono ?_
  rintro e w3 ⟨rfl, x1, x2, hk3⟩
  have hs2 := HB2.out.1.size
  have h3 := hk3.own (D := w.heap.size) (by omega) HB2.out.2
  have hf := (HB1.out.trans (HB2.out.1)).trans h3.1
  go_wp2_with fail
  go_ret
  exact ⟨rfl, hf⟩
set_option maxHeartbeats 800000 in
theorem learn_nil (v : Value) (w : World) : Calls Try.prog 55 #[.pointer none, v] w fun e w' => e = .returned (.tuple #[]) ∧ w' = w := by
  go_enter Try.func55, Try.ntmps55
  go_wp2_with fail
  refine bodyPost_ret (results_none rfl _ _ _) rfl ?_
  exact ⟨rfl, rfl⟩
set_option maxHeartbeats 800000 in
theorem can_nil (h : Int) (w : World) : Calls Try.prog 56 #[.pointer none, .int .i64 h] w fun e w' => e = .returned (.bool false) ∧ w' = w := by
  go_enter Try.func56, Try.ntmps56
  go_wp2_with fail
  go_ret
  exact ⟨rfl, rfl⟩
end Go.Proofs.Ytomopjpfdmpgpaa
