/- know.Learn, Can (layer 3). No condition. -/
import Derived.Test.YtmaedahleenlgaaKnow8
import Derived.Test.YtmaedahleenlgaaKnowOk
set_option linter.unusedVariables false
set_option linter.unusedSimpArgs false
namespace Go.Proofs.Ytmaedahleenlgaa
open Go Go.RowKit

theorem learnL_snoc (n : Nat) (F : List Bool) (l : List Int) (x : Int) : learnL n F (l ++ [x]) = learnF n (learnL n F l) x := by unfold learnL; rw [List.foldl_append]; rfl
theorem learnFr_snoc (n : Nat) (x : Int) : ∀ (l : List Int) (F : List Bool) (fr : Bool), learnFr n F fr (l ++ [x]) = (learnFr n F fr l && !learnB n (learnL n F l) x)
  | [], _, _ => rfl
  | y :: l, F, fr => learnFr_snoc n x l (learnF n F y) (fr && !learnB n F y)
theorem MStep.setF {B : Nat} {w w1 w2 : World} {mb : Nat} {tp : Option Addr} {v1 v2 u1 u2 : Value} {F F' C : List Bool} {size : Nat} {fresh : Bool} (h : MStep B w mb tp v1 v2 u1 u2 F C size fresh w1) (ho : OwnB w2 B u1 F') (hf : MFrm (fun k => u1.ownBlock = some k) w1 w2) :
    MStep B w mb tp v1 v2 u1 u2 F' C size fresh w2 := by
  have hm := h.at_
  refine h.next ⟨⟨(hf.block _ hm.lt fun e => hm.ne.1 _ e rfl).trans hm.blk, ho, hm.c.same fun g e => hf.block g (hm.c.lt g e).2 fun q => hm.apart g q e, hm.apart, hm.base⟩, hf.mono fun i e => .inl (.inr (.inl e)), fun _ e => .inl e, fun _ e => .inl e⟩

set_option maxHeartbeats 6400000 in
set_option maxRecDepth 100000 in
theorem klearn_any {B mb : Nat} {tp : Option Addr} {v1 v2 : Value} {F C : List Bool} {size : Nat} {fresh : Bool} {T : List Nd} (l : List Int) (A : Option Addr) (c : Nat) (w : World) (hm : MindAt B w mb tp v1 v2 F C size fresh) (ht : TabAt B w tp T) (hl : F.length = C.length) (hF : F.length ≤ T.length + 1) (hr : Rds 0 w .i64 A l.length c l) (hln : l.length ≤ 1000000) :
    Calls Try.prog 13 #[.pointer (some ⟨mb, 0, none⟩), .slice A l.length c] w fun e w' => e = .returned (.tuple #[]) ∧ ∃ u1 u2, MStep B w mb tp v1 v2 u1 u2 (learnL T.length (growL F T.length) l) (growL C T.length) T.length (learnFr T.length (growL F T.length) (fresh && decide (T.length = size)) l) w' := by
  have hT := ht.wf.len
  have key0 := grow_any w hm ht hl hF
  have hgl := growL_len (l := F) (n := T.length) hF
  generalize growL F T.length = G at *
  generalize growL C T.length = D at *
  generalize (fresh && decide (T.length = size)) = fr at *
  have HR := Lib.hid hr
  have HM := Lib.hid hm
  have key : Calls Try.prog 31 #[.pointer (some ⟨mb, 0, none⟩)] w fun e w1 => e = .returned (.tuple #[]) ∧ ∃ u1 u2, Hid (MStep B w mb tp v1 v2 u1 u2 G D T.length fr w1) ∧ Hid (Rds 0 w1 .i64 A l.length c l) := by
    refine key0.mono ?_
    rintro e w1 ⟨rfl, u1, u2, hs⟩
    exact ⟨rfl, u1, u2, hs, HR.out.mnd0 (HM.out.mfrm hs.fr)⟩
  have hlc := hr.cap
  generalize T.length = n at *
  clear key0 hr hm ht hl hF HR HM
  go_enter Try.func13, Try.ntmps13
  go_wp2_with fail
  refine key.mono ?_
  clear key
  rintro e w1 ⟨rfl, u1, u2, HS, HRD⟩
  go_wp2_with fail
  go_loopw [12] (fun i wr => ∃ j : Nat, j ≤ l.length ∧ i = .int .i64 j ∧ Hid (MStep B w mb tp v1 v2 u1 u2 (learnL n G (l.take j)) D n (learnFr n G fr (l.take j)) wr) ∧ Hid (Rds 0 wr .i64 A l.length c l)) (fun i wr => l.length - (intOf i).toNat)
  case atStart => exact ⟨0, Nat.zero_le _, rfl, HS, HRD⟩
  case round =>
    obtain ⟨j, hj, rfl, HSj, HLj⟩ := hrel
    by_cases hlt : j < l.length
    rotate_left
    · obtain rfl : j = l.length := by omega
      have q := HSj.out
      rw [List.take_length] at q
      have HQ := Lib.hid q
      clear q
      go_wp2_with fail
      go_end0
      exact ⟨rfl, u1, u2, HQ.out⟩
    obtain ⟨bA, oA, rfl, hcl⟩ := RdI.at_ HLj.out.cell (by omega)
    have a0 := hcl j hlt
    obtain ⟨x, hx⟩ : ∃ x, x = nth l j := ⟨_, rfl⟩
    have hxe : x = l[j] := by rw [hx]; simp [nth, hlt]
    rw [← hx] at a0
    have htk : l.take (j + 1) = l.take j ++ [x] := by rw [List.take_add_one, List.getElem?_eq_getElem hlt, hxe]; rfl
    have HNX : Hid (learnL n G (l.take (j + 1)) = learnF n (learnL n G (l.take j)) x ∧ learnFr n G fr (l.take (j + 1)) = (learnFr n G fr (l.take j) && !learnB n (learnL n G (l.take j)) x)) := by
      show _ ∧ _; rw [htk, learnL_snoc, learnFr_snoc]; exact ⟨rfl, rfl⟩
    have hjl : (learnL n G (l.take j)).length = n + 1 := by rw [learnL_len]; exact hgl
    have hji : (j : Int) < (l.length : Int) := by omega
    clear hcl hx hxe htk
    generalize learnL n G (l.take j) = H at *
    generalize learnFr n G fr (l.take j) = fj at *
    have m3 := HSj.out.at_.cells.2.2.2.1
    have m1 := HSj.out.at_.cells.2.1
    have f4 := HSj.out.at_.free 4
    have m4 := HSj.out.at_.cells.2.2.2.2
    have skip_ : learnB n H x = false → Hid (MStep B w mb tp v1 v2 u1 u2 (learnL n G (l.take (j + 1))) D n (learnFr n G fr (l.take (j + 1))) wr) := fun q => by
      show MStep ..
      rw [HNX.out.1, HNX.out.2, q]
      unfold learnF
      rw [q]
      simpa using HSj.out
    by_cases h0 : 0 < x
    rotate_left
    · have HK := skip_ (by unfold learnB; rw [decide_eq_false h0]; rfl)
      clear skip_ HSj HNX
      go_wp2_with fail
      go_roundw
      case rel => exact ⟨j + 1, by omega, by go_num, HK, HLj⟩
      case measure => simp [intOf]; omega
    by_cases h1 : x ≤ (n : Int)
    rotate_left
    · have HK := skip_ (by unfold learnB; rw [decide_eq_false h1]; simp)
      clear skip_ HSj HNX
      go_wp2_with fail
      go_roundw
      case rel => exact ⟨j + 1, by omega, by go_num, HK, HLj⟩
      case measure => simp [intOf]; omega
    obtain ⟨k, rfl⟩ : ∃ k : Nat, x = k := ⟨x.toNat, by omega⟩
    obtain ⟨gF, capF, eF, -, hgF, hcF, -, hcell, hfree, hset⟩ := HSj.out.at_.f.form (by omega)
    have q1 := hcell k (by omega)
    have q2 := hfree k
    have HST := Lib.hid (hset k true (by omega))
    have hgm : gF ≠ mb := HSj.out.at_.ne.1 gF (by rw [eF]; rfl)
    rw [eF] at m1
    have hkl : (k : Int) < (H.length : Int) := by omega
    obtain ⟨b, hb⟩ : ∃ b, b = bget H (k : Int) := ⟨_, rfl⟩
    have hb' : H.getD k false = b := by rw [hb]; unfold bget; rw [Int.toNat_natCast]
    rw [hb'] at q1
    have HB := Lib.hid hb
    cases b with
    | true =>
      have HK := skip_ (by unfold learnB; rw [← hb]; simp)
      clear skip_ HSj HNX hcell hfree hset hb hb' HST eF
      go_wp2_with fail
      go_roundw
      case rel => exact ⟨j + 1, by omega, by go_num, HK, HLj⟩
      case measure => simp [intOf]; omega
    | false =>
      have hlb : learnB n H (k : Int) = true := by unfold learnB; rw [← hb, decide_eq_true h0, decide_eq_true h1]; rfl
      have hf1 : MFrm (fun i => u1.ownBlock = some i) wr (wr.setCell ⟨gF, k, none⟩ (.bool true)) := MFrm.set _ _ _ (by rw [eF]; rfl)
      have ho1 : OwnB (wr.setCell ⟨gF, k, none⟩ (.bool true)) B u1 (bset H (k : Int)) := by unfold bset; rw [Int.toNat_natCast]; exact hset k true (by omega)
      have hm1 := HSj.out.setF ho1 hf1
      have hfr1 : Frm mndO B wr (wr.setCell ⟨gF, k, none⟩ (.bool true)) := HSj.out.at_.mfrm (hf1.mono fun i e => .inl (.inr (.inl e)))
      have hfr2 := hm1.at_.mfrm (MFrm.set (S := mS mb u1 u2) _ ⟨mb, 4, none⟩ (.bool false) (.inl rfl))
      have HK : Hid (MStep B w mb tp v1 v2 u1 u2 (learnL n G (l.take (j + 1))) D n (learnFr n G fr (l.take (j + 1))) ((wr.setCell ⟨gF, k, none⟩ (.bool true)).setCell ⟨mb, 4, none⟩ (.bool false))) := by
        show MStep ..
        rw [HNX.out.1, HNX.out.2, hlb]
        unfold learnF
        rw [hlb]
        simpa using hm1.fresh false
      have HKL : Hid (Rds 0 ((wr.setCell ⟨gF, k, none⟩ (.bool true)).setCell ⟨mb, 4, none⟩ (.bool false)) .i64 (some ⟨bA, oA, none⟩) l.length c l) := (HLj.out.mnd0 hfr1).mnd0 hfr2
      clear skip_ HSj HNX hcell hfree hset hb hb' HST hf1 ho1 hm1 hfr1 hfr2 hlb eF HLj
      go_wp2_with fail
      go_roundw
      case rel => exact ⟨j + 1, by omega, by go_num, HK, HKL⟩
      case measure => simp [intOf]; omega
end Go.Proofs.Ytmaedahleenlgaa
