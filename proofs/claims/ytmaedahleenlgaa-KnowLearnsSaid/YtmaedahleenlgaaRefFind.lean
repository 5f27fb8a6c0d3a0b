/- The reference of layer 3: Find. No condition. -/
import Derived.Test.YtmaedahleenlgaaRef03b
import Derived.Test.YtmaedahleenlgaaPureFind2
import Derived.Test.YtmaedahleenlgaaSetB
import Derived.Test.YtmaedahleenlgaaKnow8
set_option linter.unusedVariables false
set_option linter.unusedSimpArgs false
namespace Go.Proofs.Ytmaedahleenlgaa
open Go Go.RowKit

theorem ref_mnd : ∀ o, refO o = true → mndO o = false := by
  intro o h
  cases e : mndO o with
  | false => rfl
  | true =>
    unfold mndO at e
    unfold refO at h
    split at h
    · rename_i c t f
      simp only [Bool.or_eq_true, beq_iff_eq] at h e
      rcases h with rfl | rfl <;> rcases e with q | q <;> (revert q; decide)
    · cases h
/-- What Find's loops keep: the table, its two rows. -/
structure FI (B : Nat) (w : World) (rb g1 g2 : Nat) (T : List Nd) (F C : List Bool) (W : World) : Prop where
  r : IsRef B W rb T
  f : OwnB W w.heap.size (.slice (some ⟨g1, 0, none⟩) (T.length + 1) (T.length + 1)) F
  c : OwnB W w.heap.size (.slice (some ⟨g2, 0, none⟩) (T.length + 1) (T.length + 1)) C
  lf : F.length = T.length + 1
  lc : C.length = T.length + 1
  ne : g1 ≠ g2
  bl : Below w.heap.size w W
theorem FI.below {B : Nat} {w : World} {rb g1 g2 : Nat} {T : List Nd} {F C : List Bool} {W W' : World} (h : FI B w rb g1 g2 T F C W) (hb : Below W.heap.size W W') : FI B w rb g1 g2 T F C W' :=
  ⟨h.r.below hb, h.f.below hb, h.c.below hb, h.lf, h.lc, h.ne, below_next h.bl h.bl.size hb⟩
theorem OwnB.put {W : World} {B g N : Nat} {bs : List Bool} (h : OwnB W B (.slice (some ⟨g, 0, none⟩) N N) bs) (hN : bs.length = N) {j : Nat} (hj : j < N) : W.cell? ⟨g, j, none⟩ = some (.bool (bs.getD j false)) ∧ W.frozen? ⟨g, j, none⟩ = false ∧ B ≤ g ∧ ∀ b, OwnB (W.setCell ⟨g, j, none⟩ (.bool b)) B (.slice (some ⟨g, 0, none⟩) N N) (bs.set j b) := by
  obtain ⟨g', cap, e, q1, -, -, -, q2, q3, q4⟩ := h.form (by omega)
  simp only [Value.slice.injEq, Option.some.injEq, Addr.mk.injEq, and_true] at e
  obtain ⟨rfl, -, -⟩ := e
  exact ⟨q2 j (by omega), q3 j, q1, fun b => q4 j b (by omega)⟩
theorem FI.setF {B : Nat} {w : World} {rb g1 g2 : Nat} {T : List Nd} {F C : List Bool} {W : World} (h : FI B w rb g1 g2 T F C W) (hB : B ≤ w.heap.size) {j : Nat} (hj : j < T.length + 1) (b : Bool) : FI B w rb g1 g2 T (F.set j b) C (W.setCell ⟨g1, j, none⟩ (.bool b)) := by
  obtain ⟨-, -, q1, q2⟩ := h.f.put h.lf hj
  obtain ⟨cur, hty⟩ := h.f.type _ rfl
  have hf : Frm mndO w.heap.size W (W.setCell ⟨g1, j, none⟩ (.bool b)) := frm_setB3 q1 hty _
  refine ⟨h.r.frm hf hB ref_mnd mndO_sp, q2 b, h.c.same fun g e => ?_, by simp [h.lf], h.lc, h.ne, h.bl.trans (hf.below h.bl.size)⟩
  cases e
  exact mblk_other W _ (fun q => h.ne q.symm)
theorem FI.setC {B : Nat} {w : World} {rb g1 g2 : Nat} {T : List Nd} {F C : List Bool} {W : World} (h : FI B w rb g1 g2 T F C W) (hB : B ≤ w.heap.size) {j : Nat} (hj : j < T.length + 1) (b : Bool) : FI B w rb g1 g2 T F (C.set j b) (W.setCell ⟨g2, j, none⟩ (.bool b)) := by
  obtain ⟨-, -, q1, q2⟩ := h.c.put h.lc hj
  obtain ⟨cur, hty⟩ := h.c.type _ rfl
  have hf : Frm mndO w.heap.size W (W.setCell ⟨g2, j, none⟩ (.bool b)) := frm_setB3 q1 hty _
  refine ⟨h.r.frm hf hB ref_mnd mndO_sp, h.f.same fun g e => ?_, q2 b, h.lf, by simp [h.lc], h.ne, h.bl.trans (hf.below h.bl.size)⟩
  cases e
  exact mblk_other W _ h.ne
/-- A row of bools, as it stands in memory. -/
def rdB (w : World) (g N : Nat) : List Bool := (List.range N).map fun j => match w.cell? ⟨g, j, none⟩ with | some (.bool b) => b | _ => false
theorem rdB_own {W : World} {B g N : Nat} {bs : List Bool} (h : OwnB W B (.slice (some ⟨g, 0, none⟩) N N) bs) (hN : bs.length = N) : rdB W g N = bs := by
  apply List.ext_getElem (by simp [rdB, hN])
  intro j h1 h2
  have := (h.put hN (j := j) (by omega)).1
  simp [rdB, this, h2]
def cntR (v : Value) (w : World) (g1 g2 N : Nat) : Nat := 2 * (2 * N - (cntB (rdB w g1 N) + cntB (rdB w g2 N))) + (match v with | .bool true => 1 | _ => 0)
theorem cntR_at {B : Nat} {w : World} {rb g1 g2 : Nat} {T : List Nd} {F C : List Bool} {W : World} (h : FI B w rb g1 g2 T F C W) (b : Bool) : cntR (.bool b) W g1 g2 (T.length + 1) = 2 * (2 * (T.length + 1) - (cntB F + cntB C)) + (if b then 1 else 0) := by
  unfold cntR
  rw [rdB_own h.f h.lf, rdB_own h.c h.lc]
  cases b <;> rfl
def FindPost (T : List Nd) (S : Int → Prop) (w : World) (e : Ending) (w' : World) : Prop := ∃ v1 v2 F C, e = .returned (.tuple #[v1, v2]) ∧ DoneK T S F C ∧ bget C 0 = false ∧ OwnB w' w.heap.size v1 F ∧ OwnB w' w.heap.size v2 C ∧ Below w.heap.size w w'
set_option maxHeartbeats 6400000 in
set_option maxRecDepth 100000 in
theorem find3_any {B B' rb : Nat} {T : List Nd} (base : List Int) (A : Option Addr) (n c : Nat) (w : World) (hr : IsRef B w rb T) (hB : B ≤ w.heap.size) (hb : Rds B' w .i64 A n c base) (hn : n ≤ 1000000) :
    Calls Try.prog 14 #[.pointer (some ⟨rb, 0, none⟩), .slice A n c] w (FindPost T (inT T base) w) := by
  have HR := Lib.hid hr
  have HW := Lib.hid hr.1
  have hT := hr.1.len
  have HB := Lib.hid hb
  have hl := Lib.hid hb.len
  have hle := hb.cap
  have hmx := hb.max
  obtain ⟨rA, rc, r0⟩ := hr.len3
  obtain ⟨W1, hmk1, ho1, hb1⟩ := run_make_bools w.heap.size w.drew (T.length + 1) (by omega) (Nat.le_refl _)
  have hs1 : w.heap.size + 1 ≤ W1.heap.size := (ho1.lt _ rfl).2
  obtain ⟨W2, hmk2, ho2, hb2⟩ := run_make_bools w.heap.size W1 (T.length + 1) (by omega) (by omega)
  have m1 : (Instr.makeSlice 39 (.int .i64 ((T.length : Int) + 1)) (.int .i64 ((T.length : Int) + 1))).run Try.prog w.drew = .ok (.slice (some ⟨w.heap.size, 0, none⟩) (T.length + 1) (T.length + 1)) W1 := hmk1
  have m2 : (Instr.makeSlice 39 (.int .i64 ((T.length : Int) + 1)) (.int .i64 ((T.length : Int) + 1))).run Try.prog W1 = .ok (.slice (some ⟨W1.heap.size, 0, none⟩) (T.length + 1) (T.length + 1)) W2 := hmk2
  have hw1 : Below w.heap.size w W1 := (Below.drew (Below.refl w.heap.size w)).trans hb1
  have hbw2 : Below w.heap.size w W2 := below_next hw1 hw1.size hb2
  have HO1 := Lib.hid (ho1.below hb2)
  have HO2 := Lib.hid ho2
  have HB2 := Lib.hid hbw2
  have HR2 := Lib.hid (hr.below hbw2)
  have hne : w.heap.size ≠ W1.heap.size := by omega
  clear hmk1 hmk2 ho1 ho2 hb1 hb2 hw1 hbw2 hr hb
  go_enter Try.func14, Try.ntmps14
  go_wp2_with fail
  have HI1 : Hid (FI B w rb w.heap.size W1.heap.size T (List.replicate (T.length + 1) false) (List.replicate (T.length + 1) false) W2) := ⟨HR2.out, HO1.out, HO2.out, by simp, by simp, hne, HB2.out⟩
  have HI2 : Hid (FI B w rb W1.heap.size w.heap.size T (List.replicate (T.length + 1) false) (List.replicate (T.length + 1) false) W2) := ⟨HR2.out, HO2.out, HO1.out, by simp, by simp, hne.symm, HB2.out⟩
  obtain ⟨M, hM⟩ : ∃ M : Act → World → Prop, M = fun a W => ∃ (s20 s21 s22 s23 s24 s25 : Value) (g1 g2 : Nat), a = { tmps := #[.pointer (some ⟨rb, 0, none⟩), .slice A n c, undef, undef, .slice none 0 0, .slice none 0 0, .int .i64 T.length, .slice (some ⟨g1, 0, none⟩) (T.length + 1) (T.length + 1), .slice (some ⟨g2, 0, none⟩) (T.length + 1) (T.length + 1), undef, undef, undef, undef, undef, undef, .pointer (some ⟨rb, 0, none⟩), .pointer (some ⟨rb, 0, none⟩), .pointer (some ⟨rb, 0, none⟩), .slice rA T.length rc, .int .i64 T.length, s20, s21, s22, s23, s24, s25, undef, undef, undef, undef, undef, undef, undef, undef, undef, undef, undef, undef, undef, undef, undef, undef, undef, undef, undef, undef, undef, undef, undef, undef, undef, undef, undef, undef, undef, undef, undef, undef, undef, undef, undef, undef, undef, undef, undef, undef, undef, undef, undef, undef, undef, undef, undef, undef, undef, undef, undef, undef, undef, undef, undef, undef, undef, undef, undef, undef, undef, undef, undef, undef, undef, undef, undef, undef, undef, undef, undef, undef, undef, undef, undef, undef, undef, undef, undef, undef, undef, undef, undef, undef, undef, undef, undef, undef, undef, undef, undef, undef, undef, undef, undef, undef, undef, undef, undef, undef, undef, undef, undef, undef, undef, undef, undef, undef, undef, undef, undef, undef, undef, undef, undef, undef, undef], defers := [] } ∧ Hid (FI B w rb g1 g2 T (List.replicate (T.length + 1) false) (List.replicate (T.length + 1) false) W) := ⟨_, rfl⟩
  have HM := Lib.hid hM
  clear hM
  refine wp_mono (Q := onlyEnd M) ?_ (fun e a wq h => ?_)
  · go_region
    all_goals show M _ _
    all_goals rw [HM.out]
    all_goals first
      | exact ⟨_, _, _, _, _, _, _, _, rfl, HI1⟩
      | exact ⟨_, _, _, _, _, _, _, _, rfl, HI2⟩
  cases e with
  | normal =>
    have h' : M a wq := h
    rw [HM.out] at h'
    clear h HM m1 m2 HO1 HO2 HB2 HR2 hne hs1 HI1 HI2
    obtain ⟨s20, s21, s22, s23, s24, s25, g1, g2, rfl, HI⟩ := h'
    go_wp2_with fail
    go_loopw [9] (fun v wr => ∃ (k : Nat) (F : List Bool), k ≤ n ∧ v = .int .i64 k ∧ Hid (F = learnL T.length (List.replicate (T.length + 1) false) (base.take k)) ∧ Hid (FI B w rb g1 g2 T F (List.replicate (T.length + 1) false) wr)) (fun v _ => n - (intOf v).toNat)
    case atStart => exact ⟨0, _, Nat.zero_le _, rfl, rfl, HI⟩
    case round =>
      obtain ⟨k, F, hk, rfl, HF, HI⟩ := hrel
      by_cases hlt : k < n
      · have hrB := HB.out.below HI.out.bl
        obtain ⟨bA, oA, rfl, hcx⟩ := RdI.at_ hrB.cell (by have := hl.out; omega)
        have a0 := hcx k (by have := hl.out; omega)
        obtain ⟨x, hx⟩ : ∃ x, x = nth base k := ⟨_, rfl⟩
        rw [← hx] at a0
        have hst : learnL T.length (List.replicate (T.length + 1) false) (base.take (k + 1)) = learnF T.length F x := by rw [learnL_take (by have := hl.out; omega), ← HF.out, ← hx]
        clear hcx hx hrB
        by_cases h1 : 1 ≤ x
        · by_cases h2 : x ≤ (T.length : Int)
          · obtain ⟨p, rfl⟩ : ∃ p : Nat, x = p := ⟨x.toNat, by omega⟩
            rw [learnF_in (by omega) h2] at hst
            obtain ⟨f0, f1, -, -⟩ := HI.out.f.put HI.out.lf (j := p) (by omega)
            have HI' := Lib.hid (HI.out.setF hB (j := p) (by omega) true)
            have HF' : Hid (F.set p true = learnL T.length (List.replicate (T.length + 1) false) (base.take (k + 1))) := hst.symm
            have h3 : (p : Int) < (T.length : Int) + 1 := by omega
            clear hst HI HF
            go_wp2_with fail
            go_roundw
            case rel => exact ⟨k + 1, _, by omega, by go_num, HF', HI'⟩
            case measure => simp [intOf]; omega
          · rw [learnF_out (by omega)] at hst
            have HF' : Hid (F = learnL T.length (List.replicate (T.length + 1) false) (base.take (k + 1))) := hst.symm
            clear hst HF
            go_wp2_with fail
            go_roundw
            case rel => exact ⟨k + 1, _, by omega, by go_num, HF', HI⟩
            case measure => simp [intOf]; omega
        · rw [learnF_out (by omega)] at hst
          have HF' : Hid (F = learnL T.length (List.replicate (T.length + 1) false) (base.take (k + 1))) := hst.symm
          clear hst HF
          go_wp2_with fail
          go_roundw
          case rel => exact ⟨k + 1, _, by omega, by go_num, HF', HI⟩
          case measure => simp [intOf]; omega
      obtain rfl : k = n := by omega
      obtain ⟨fr, hok⟩ := base_ok HW.out base
      have hF0 := HF.out
      rw [List.take_of_length_le (by have := hl.out; omega)] at hF0
      rw [← hF0] at hok
      have HOK := Lib.hid hok
      clear hok hF0 HF
      go_wp2_with fail
      go_loopw [10] (fun v wr => ∃ (m : Bool) (F C : List Bool), v = .bool m ∧ Hid (m = false → DoneK T (inT T base) F C) ∧ Hid (LenK T ⟨F, C, false⟩ ∧ SoundK T (inT T base) ⟨F, C, false⟩ ∧ (∀ h n, getT T h = some n → inT T base h → bget F h = true) ∧ bget C 0 = false) ∧ Hid (FI B w rb g1 g2 T F C wr)) (fun v wr => cntR v wr g1 g2 (T.length + 1))
      case atStart => exact ⟨true, _, _, rfl, fun h => (by cases h), ⟨⟨HI.out.lf, HI.out.lc⟩, HOK.out.sd, fun h _ _ q => HOK.out.bs h q, by simp [bget]⟩, HI⟩
      case round =>
        obtain ⟨m, F, C, rfl, HD, HS, HI⟩ := hrel
        cases m with
        | false =>
          go_wp2_with fail
          go_returns
          exact ⟨_, _, F, C, rfl, (HD.out (by simp)), HS.out.2.2.2, HI.out.f, HI.out.c, HI.out.bl⟩
        | true =>
        have HC0 := Lib.hid (cntR_at HI.out true)
        go_wp2_with fail
        go_loopw [10, 11] (fun v vh wz => ∃ (k : Nat) (s : KS), k ≤ T.length ∧ vh = .int .i64 ((k : Int) + 1) ∧ v = .bool s.ch ∧ Hid (s = passR T ⟨F, C, false⟩ k) ∧ Hid (FI B w rb g1 g2 T s.F s.C wz)) (fun _ vh _ => T.length + 1 - (intOf vh).toNat)
        case atStart => exact ⟨0, ⟨F, C, false⟩, Nat.zero_le _, rfl, rfl, rfl, HI⟩
        case round =>
          obtain ⟨k, s, hk, rfl, rfl, HP0, HI⟩ := hrel
          obtain ⟨wz, rfl⟩ : ∃ wz, wz = wr := ⟨_, rfl⟩
          by_cases hkl : k < T.length
          · obtain ⟨nd, hnd⟩ : ∃ nd, T[k]? = some nd := ⟨_, List.getElem?_eq_getElem hkl⟩
            have HG : Hid (getT T ((k : Int) + 1) = some nd) := by show _ = _; rw [getT_nat]; exact hnd
            have HNX : Hid (passR T ⟨F, C, false⟩ (k + 1) = stepOpen (stepMade (pubL T s.F) s ((k : Int) + 1) nd) ((k : Int) + 1) nd) := by
              show _ = _
              rw [passR_succ hkl, ← HP0.out]
              have : T[k] = nd := by rw [List.getElem?_eq_getElem hkl] at hnd; exact Option.some.inj hnd
              rw [this]; rfl
            obtain ⟨f0, f1, -, -⟩ := HI.out.f.put HI.out.lf (j := k + 1) (by omega)
            obtain ⟨d0, d1, -, -⟩ := HI.out.c.put HI.out.lc (j := k + 1) (by omega)
            obtain ⟨bF, hbF⟩ : ∃ b, b = bget s.F ((k : Int) + 1) := ⟨_, rfl⟩
            obtain ⟨bC, hbC⟩ : ∃ b, b = bget s.C ((k : Int) + 1) := ⟨_, rfl⟩
            have e1 : s.F.getD (k + 1) false = bF := by rw [hbF]; rfl
            have e2 : s.C.getD (k + 1) false = bC := by rw [hbC]; rfl
            rw [e1] at f0
            rw [e2] at d0
            have hle : (k : Int) + 1 ≤ (T.length : Int) := by omega
            have h10 : (0 : Int) ≤ (k : Int) + 1 := by omega
            have h11 : (k : Int) + 1 < (T.length : Int) + 1 := by omega
            have h12 : ((k : Int) + 1).toNat = k + 1 := by omega
            have hk0 : (0 : Int) ≤ (k : Int) := by omega
            have hkT : (k : Int) < (T.length : Int) := by omega
            have hcF := hbF
            clear e1 e2
            cases bC with
            | true =>
              obtain ⟨s1, hs1⟩ : ∃ s1, s1 = stepMade (pubL T s.F) s ((k : Int) + 1) nd := ⟨_, rfl⟩
              have HS1 := Lib.hid hs1
              rw [stepMade_had _ nd hbC.symm] at hs1
              have HF1 : Hid (bget s1.F ((k : Int) + 1) = bF) := by show _ = _; rw [hs1]; exact hbF.symm
              obtain ⟨W1, hW1⟩ : ∃ W1, W1 = wz := ⟨_, rfl⟩
              have HI1 : Hid (FI B w rb g1 g2 T s1.F s1.C W1) := by rw [hs1, hW1]; exact HI
              have hch : Value.bool s.ch = .bool s1.ch := by rw [hs1]
              have HCH := Lib.hid hch
              clear hs1 hbF hbC hch
              cases bF with
              | false =>
                clear hcF
                have HE : Hid (s1 = passR T ⟨F, C, false⟩ (k + 1)) := by
                  show _ = _
                  rw [HNX.out, ← HS1.out, stepOpen_no HF1.out]
                go_wp2_with fail
                rw [← hW1]
                clear hW1
                go_roundw
                case rel => exact ⟨k + 1, s1, by omega, by go_num, HCH.out, HE, HI1⟩
                case measure => simp [intOf]; omega
              | true =>
                obtain ⟨gN, capN, AP, cP, c0, hcN, k0, k1, k2, hp⟩ := HI1.out.r.node3 hnd
                have hpc := hp.cap
                have hpm := hp.max
                have hwl := True.intro
                obtain ⟨W2, hW2⟩ : ∃ W2, W2 = (wz).alloc (.cells #[.int .i64 nd.kind, .string nd.text, .slice AP nd.parts.length cP] 71) := ⟨_, rfl⟩
                have hbW : Below W1.heap.size W1 W2 := by rw [hW2, hW1]; exact below_new _
                have HXb : Hid (W2.heap[wz.heap.size]? = some (.cells #[.int .i64 nd.kind, .string nd.text, .slice AP nd.parts.length cP] 71 (0, 0))) := by
                  rw [hW2]; exact heap_alloc_new (wz) _
                have HI2 := Lib.hid (HI1.out.below hbW)
                have HRp := Lib.hid (hp.below hbW)
                have hbn1 : g1 ≠ wz.heap.size := by
                  have : g1 < W1.heap.size := (HI1.out.f.lt g1 rfl).2
                  rw [hW1] at this
                  have h9 : (wz).heap.size = wz.heap.size := by simp [World.setCell]
                  omega
                rw [hW1] at c0 k0 k1 k2
                clear hp hbW hwl hcF
                go_wp2_with fail
                rw [← hW2]
                clear hW2 c0 k0 k1 k2
                go_loopw [10, 13] (fun v vi wy => ∃ (i : Nat) (s2 : KS), i ≤ nd.parts.length ∧ vi = .int .i64 i ∧ v = .bool s2.ch ∧ Hid (s2 = partR s1 nd i) ∧ Hid (FI B w rb g1 g2 T s2.F s2.C wy) ∧ Hid (wy.heap[wz.heap.size]? = some (.cells #[.int .i64 nd.kind, .string nd.text, .slice AP nd.parts.length cP] 71 (0, 0))) ∧ Hid (Rds B wy .i64 AP nd.parts.length cP nd.parts)) (fun _ vi _ => nd.parts.length - (intOf vi).toNat)
                case atStart => exact ⟨0, s1, Nat.zero_le _, rfl, HCH.out, rfl, HI2, HXb, HRp⟩
                case round =>
                  obtain ⟨i, s2, hi, rfl, rfl, HP, HI2, HXb, HRp⟩ := hrel
                  have x0 : wr.cell? ⟨wz.heap.size, 0, none⟩ = some (.int .i64 nd.kind) := by rw [cell_of_row wr _ 0 _ _ _ HXb.out]; rfl
                  have x2 : wr.cell? ⟨wz.heap.size, 2, none⟩ = some (.slice AP nd.parts.length cP) := by rw [cell_of_row wr _ 2 _ _ _ HXb.out]; rfl
                  by_cases hil : i < nd.parts.length
                  · obtain ⟨bP, oP, rfl, hcx⟩ := RdI.at_ HRp.out.cell (by omega)
                    have p0 := hcx i hil
                    have pz := hcx 0 (by omega)
                    rw [Nat.add_zero] at pz
                    have hpr := (HW.out.good k _ hnd).range (nth nd.parts i) (nth_mem hil)
                    have hqr := (HW.out.good k _ hnd).range (nth nd.parts 0) (nth_mem (by omega))
                    obtain ⟨pn, hpn⟩ : ∃ pn : Nat, nth nd.parts i = pn := ⟨(nth nd.parts i).toNat, by omega⟩
                    obtain ⟨qn, hqn⟩ : ∃ qn : Nat, nth nd.parts 0 = qn := ⟨(nth nd.parts 0).toNat, by omega⟩
                    rw [hpn] at hpr p0
                    rw [hqn] at hqr pz
                    obtain ⟨f0, f1, -, -⟩ := HI2.out.f.put HI2.out.lf (j := pn) (by omega)
                    obtain ⟨d0, -, -, -⟩ := HI2.out.c.put HI2.out.lc (j := qn) (by omega)
                    have HI3 := Lib.hid (HI2.out.setF hB (j := pn) (by omega) true)
                    have HX3 : Hid ((wr.setCell ⟨g1, pn, none⟩ (.bool true)).heap[wz.heap.size]? = some (.cells #[.int .i64 nd.kind, .string nd.text, .slice (some ⟨bP, oP, none⟩) nd.parts.length cP] 71 (0, 0))) := (mblk_other wr _ (fun q => hbn1 q.symm)).trans HXb.out
                    have HR3 : Hid (Rds B (wr.setCell ⟨g1, pn, none⟩ (.bool true)) .i64 (some ⟨bP, oP, none⟩) nd.parts.length cP nd.parts) := by
                      obtain ⟨cur, hty⟩ := HI2.out.f.type _ rfl
                      exact HRp.out.frm ((frm_setB3 (B := B) (by have := (HI2.out.f.lt _ rfl).1; omega) hty _).mono mndO_sp)
                    obtain ⟨b2, hb2⟩ : ∃ b2, b2 = bget s2.F (nth nd.parts i) := ⟨_, rfl⟩
                    have e2 : s2.F.getD pn false = b2 := by rw [hb2, hpn]; rfl
                    rw [e2] at f0
                    obtain ⟨bq, hbq⟩ : ∃ bq, bq = bget s1.C (nth nd.parts 0) := ⟨_, rfl⟩
                    have e3 : s2.C.getD qn false = bq := by rw [hbq, HP.out, partR_C, hqn]; rfl
                    rw [e3] at d0
                    have h20 : (0 : Int) ≤ (pn : Int) := by omega
                    have h22 : (pn : Int) < (T.length : Int) + 1 := by omega
                    have h23 : (qn : Int) < (T.length : Int) + 1 := by omega
                    have h24 : (0 : Int) < (nd.parts.length : Int) := by omega
                    clear hcx hpr hqr e2 e3 hqn
                    by_cases k3 : nd.kind = 3
                    · have e4 : (nd.kind == 3) = true := by simp [k3]
                      have hbo : openI s1.C nd i = true := by unfold openI; simp [k3]
                      clear k3 hbq
                      cases b2 with
                      | true =>
                        have HN : Hid (s2 = partR s1 nd (i + 1)) := by show _ = _; rw [partR_succ, hbo, if_pos rfl, ← HP.out, setF_had hb2.symm]
                        clear hb2 hbo
                        go_wp2_with fail
                        go_roundw
                        case rel => exact ⟨i + 1, s2, by omega, by go_num, rfl, HN, HI2, HXb, HRp⟩
                        case measure => simp [intOf]; omega
                      | false =>
                        have HN : Hid ((⟨s2.F.set pn true, s2.C, true⟩ : KS) = partR s1 nd (i + 1)) := by show _ = _; rw [partR_succ, hbo, if_pos rfl, ← HP.out, setF_new hb2.symm, hpn]; rfl
                        clear hb2 hbo
                        go_wp2_with fail
                        go_roundw
                        case rel => exact ⟨i + 1, _, by omega, by go_num, rfl, HN, HI3, HX3, HR3⟩
                        case measure => simp [intOf]; omega
                    have e4 : (nd.kind == 3) = false := by simp [k3]
                    by_cases k9 : nd.kind = 9
                    · have e5 : (nd.kind == 9) = true := by simp [k9]
                      have e6 : (nd.kind == 10) = false := by simp [k9]
                      by_cases i1 : i = 1
                      · have e7 : ((i : Int) == 1) = true := by simp; omega
                        have hbo : openI s1.C nd i = true := by unfold openI; simp [k9, i1]
                        clear k3 k9 i1 hbq
                        cases b2 with
                        | true =>
                          have HN : Hid (s2 = partR s1 nd (i + 1)) := by show _ = _; rw [partR_succ, hbo, if_pos rfl, ← HP.out, setF_had hb2.symm]
                          clear hb2 hbo
                          go_wp2_with fail
                          go_roundw
                          case rel => exact ⟨i + 1, s2, by omega, by go_num, rfl, HN, HI2, HXb, HRp⟩
                          case measure => simp [intOf]; omega
                        | false =>
                          have HN : Hid ((⟨s2.F.set pn true, s2.C, true⟩ : KS) = partR s1 nd (i + 1)) := by show _ = _; rw [partR_succ, hbo, if_pos rfl, ← HP.out, setF_new hb2.symm, hpn]; rfl
                          clear hb2 hbo
                          go_wp2_with fail
                          go_roundw
                          case rel => exact ⟨i + 1, _, by omega, by go_num, rfl, HN, HI3, HX3, HR3⟩
                          case measure => simp [intOf]; omega
                      · have e7 : ((i : Int) == 1) = false := by simp; omega
                        have hbo : openI s1.C nd i = false := by unfold openI; simp [k9, i1]
                        clear k3 k9 i1 hbq
                        have HN : Hid (s2 = partR s1 nd (i + 1)) := by show _ = _; rw [partR_succ, hbo, if_neg (by decide), ← HP.out]
                        clear hb2 hbo
                        go_wp2_with fail
                        go_roundw
                        case rel => exact ⟨i + 1, s2, by omega, by go_num, rfl, HN, HI2, HXb, HRp⟩
                        case measure => simp [intOf]; omega
                    have e5 : (nd.kind == 9) = false := by simp [k9]
                    by_cases k10 : nd.kind = 10
                    · have e6 : (nd.kind == 10) = true := by simp [k10]
                      by_cases i2 : i = 2
                      · have e7 : ((i : Int) == 2) = true := by simp; omega
                        cases bq with
                        | true =>
                          have hbo : openI s1.C nd i = true := by unfold openI; simp [k10, i2, ← hbq]
                          clear k3 k9 k10 i2 hbq
                          cases b2 with
                          | true =>
                            have HN : Hid (s2 = partR s1 nd (i + 1)) := by show _ = _; rw [partR_succ, hbo, if_pos rfl, ← HP.out, setF_had hb2.symm]
                            clear hb2 hbo
                            go_wp2_with fail
                            go_roundw
                            case rel => exact ⟨i + 1, s2, by omega, by go_num, rfl, HN, HI2, HXb, HRp⟩
                            case measure => simp [intOf]; omega
                          | false =>
                            have HN : Hid ((⟨s2.F.set pn true, s2.C, true⟩ : KS) = partR s1 nd (i + 1)) := by show _ = _; rw [partR_succ, hbo, if_pos rfl, ← HP.out, setF_new hb2.symm, hpn]; rfl
                            clear hb2 hbo
                            go_wp2_with fail
                            go_roundw
                            case rel => exact ⟨i + 1, _, by omega, by go_num, rfl, HN, HI3, HX3, HR3⟩
                            case measure => simp [intOf]; omega
                        | false =>
                          have hbo : openI s1.C nd i = false := by unfold openI; simp [k10, i2, ← hbq]
                          clear k3 k9 k10 i2 hbq
                          have HN : Hid (s2 = partR s1 nd (i + 1)) := by show _ = _; rw [partR_succ, hbo, if_neg (by decide), ← HP.out]
                          clear hb2 hbo
                          go_wp2_with fail
                          go_roundw
                          case rel => exact ⟨i + 1, s2, by omega, by go_num, rfl, HN, HI2, HXb, HRp⟩
                          case measure => simp [intOf]; omega
                      · have e7 : ((i : Int) == 2) = false := by simp; omega
                        have hbo : openI s1.C nd i = false := by unfold openI; simp [k10, i2]
                        clear k3 k9 k10 i2 hbq
                        have HN : Hid (s2 = partR s1 nd (i + 1)) := by show _ = _; rw [partR_succ, hbo, if_neg (by decide), ← HP.out]
                        clear hb2 hbo
                        go_wp2_with fail
                        go_roundw
                        case rel => exact ⟨i + 1, s2, by omega, by go_num, rfl, HN, HI2, HXb, HRp⟩
                        case measure => simp [intOf]; omega
                    have e6 : (nd.kind == 10) = false := by simp [k10]
                    have hbo : openI s1.C nd i = false := by unfold openI; simp [k3, k9, k10]
                    clear k3 k9 k10 hbq
                    have HN : Hid (s2 = partR s1 nd (i + 1)) := by show _ = _; rw [partR_succ, hbo, if_neg (by decide), ← HP.out]
                    clear hb2 hbo
                    go_wp2_with fail
                    go_roundw
                    case rel => exact ⟨i + 1, s2, by omega, by go_num, rfl, HN, HI2, HXb, HRp⟩
                    case measure => simp [intOf]; omega
                  · obtain rfl : i = nd.parts.length := by omega
                    have HE : Hid (s2 = passR T ⟨F, C, false⟩ (k + 1)) := by
                      show _ = _
                      rw [HNX.out, ← HS1.out, stepOpen_part HW.out HG.out HF1.out, HP.out]
                    go_wp2_with fail
                    go_roundw
                    case rel => exact ⟨k + 1, s2, by omega, by go_num, rfl, HE, HI2⟩
                    case measure => simp [intOf]; omega
            | false =>
              have key := rmakes_any ((k : Int) + 1) nd wz HI.out.r HG.out HI.out.f HI.out.c HI.out.lf HI.out.lc
              obtain ⟨bm, hbm⟩ : ∃ b, b = madeB s.F s.C (pubL T s.F) ((k : Int) + 1) nd := ⟨_, rfl⟩
              rw [← hbm] at key
              have HBm := Lib.hid hbm
              have HBC := Lib.hid hbC
              have HBF := Lib.hid hbF
              clear hbm hbC hbF hcF
              go_wp2_with fail
              refine key.mono ?_
              clear key
              rintro e w4 ⟨rfl, hb4⟩
              have HI4 := Lib.hid (HI.out.below hb4)
              obtain ⟨f0', -, -, -⟩ := HI4.out.f.put HI4.out.lf (j := k + 1) (by omega)
              obtain ⟨d0', d1', -, -⟩ := HI4.out.c.put HI4.out.lc (j := k + 1) (by omega)
              have e1 : s.F.getD (k + 1) false = bF := by rw [HBF.out]; rfl
              rw [e1] at f0'
              have hne2 := HI4.out.ne
              clear e1 hb4 HI f0 f1 d0 d1
              cases bm with
              | false =>
                obtain ⟨s1, hs1⟩ : ∃ s1, s1 = stepMade (pubL T s.F) s ((k : Int) + 1) nd := ⟨_, rfl⟩
                have HS1 := Lib.hid hs1
                rw [stepMade_no HBm.out.symm] at hs1
                have HF1 : Hid (bget s1.F ((k : Int) + 1) = bF) := by show _ = _; rw [hs1]; exact HBF.out.symm
                obtain ⟨W1, hW1⟩ : ∃ W1, W1 = w4 := ⟨_, rfl⟩
                have HI1 : Hid (FI B w rb g1 g2 T s1.F s1.C W1) := by rw [hs1, hW1]; exact HI4
                have hch : Value.bool s.ch = .bool s1.ch := by rw [hs1]
                have HCH := Lib.hid hch
                have hcF := True.intro
                clear hs1 hch
                cases bF with
                | false =>
                  clear hcF
                  have HE : Hid (s1 = passR T ⟨F, C, false⟩ (k + 1)) := by
                    show _ = _
                    rw [HNX.out, ← HS1.out, stepOpen_no HF1.out]
                  go_wp2_with fail
                  rw [← hW1]
                  clear hW1
                  go_roundw
                  case rel => exact ⟨k + 1, s1, by omega, by go_num, HCH.out, HE, HI1⟩
                  case measure => simp [intOf]; omega
                | true =>
                  obtain ⟨gN, capN, AP, cP, c0, hcN, k0, k1, k2, hp⟩ := HI1.out.r.node3 hnd
                  have hpc := hp.cap
                  have hpm := hp.max
                  have hwl := True.intro
                  obtain ⟨W2, hW2⟩ : ∃ W2, W2 = (w4).alloc (.cells #[.int .i64 nd.kind, .string nd.text, .slice AP nd.parts.length cP] 71) := ⟨_, rfl⟩
                  have hbW : Below W1.heap.size W1 W2 := by rw [hW2, hW1]; exact below_new _
                  have HXb : Hid (W2.heap[w4.heap.size]? = some (.cells #[.int .i64 nd.kind, .string nd.text, .slice AP nd.parts.length cP] 71 (0, 0))) := by
                    rw [hW2]; exact heap_alloc_new (w4) _
                  have HI2 := Lib.hid (HI1.out.below hbW)
                  have HRp := Lib.hid (hp.below hbW)
                  have hbn1 : g1 ≠ w4.heap.size := by
                    have : g1 < W1.heap.size := (HI1.out.f.lt g1 rfl).2
                    rw [hW1] at this
                    have h9 : (w4).heap.size = w4.heap.size := by simp [World.setCell]
                    omega
                  rw [hW1] at c0 k0 k1 k2
                  clear hp hbW hwl hcF
                  go_wp2_with fail
                  rw [← hW2]
                  clear hW2 c0 k0 k1 k2
                  go_loopw [10, 13] (fun v vi wy => ∃ (i : Nat) (s2 : KS), i ≤ nd.parts.length ∧ vi = .int .i64 i ∧ v = .bool s2.ch ∧ Hid (s2 = partR s1 nd i) ∧ Hid (FI B w rb g1 g2 T s2.F s2.C wy) ∧ Hid (wy.heap[w4.heap.size]? = some (.cells #[.int .i64 nd.kind, .string nd.text, .slice AP nd.parts.length cP] 71 (0, 0))) ∧ Hid (Rds B wy .i64 AP nd.parts.length cP nd.parts)) (fun _ vi _ => nd.parts.length - (intOf vi).toNat)
                  case atStart => exact ⟨0, s1, Nat.zero_le _, rfl, HCH.out, rfl, HI2, HXb, HRp⟩
                  case round =>
                    obtain ⟨i, s2, hi, rfl, rfl, HP, HI2, HXb, HRp⟩ := hrel
                    have x0 : wr.cell? ⟨w4.heap.size, 0, none⟩ = some (.int .i64 nd.kind) := by rw [cell_of_row wr _ 0 _ _ _ HXb.out]; rfl
                    have x2 : wr.cell? ⟨w4.heap.size, 2, none⟩ = some (.slice AP nd.parts.length cP) := by rw [cell_of_row wr _ 2 _ _ _ HXb.out]; rfl
                    by_cases hil : i < nd.parts.length
                    · obtain ⟨bP, oP, rfl, hcx⟩ := RdI.at_ HRp.out.cell (by omega)
                      have p0 := hcx i hil
                      have pz := hcx 0 (by omega)
                      rw [Nat.add_zero] at pz
                      have hpr := (HW.out.good k _ hnd).range (nth nd.parts i) (nth_mem hil)
                      have hqr := (HW.out.good k _ hnd).range (nth nd.parts 0) (nth_mem (by omega))
                      obtain ⟨pn, hpn⟩ : ∃ pn : Nat, nth nd.parts i = pn := ⟨(nth nd.parts i).toNat, by omega⟩
                      obtain ⟨qn, hqn⟩ : ∃ qn : Nat, nth nd.parts 0 = qn := ⟨(nth nd.parts 0).toNat, by omega⟩
                      rw [hpn] at hpr p0
                      rw [hqn] at hqr pz
                      obtain ⟨f0, f1, -, -⟩ := HI2.out.f.put HI2.out.lf (j := pn) (by omega)
                      obtain ⟨d0, -, -, -⟩ := HI2.out.c.put HI2.out.lc (j := qn) (by omega)
                      have HI3 := Lib.hid (HI2.out.setF hB (j := pn) (by omega) true)
                      have HX3 : Hid ((wr.setCell ⟨g1, pn, none⟩ (.bool true)).heap[w4.heap.size]? = some (.cells #[.int .i64 nd.kind, .string nd.text, .slice (some ⟨bP, oP, none⟩) nd.parts.length cP] 71 (0, 0))) := (mblk_other wr _ (fun q => hbn1 q.symm)).trans HXb.out
                      have HR3 : Hid (Rds B (wr.setCell ⟨g1, pn, none⟩ (.bool true)) .i64 (some ⟨bP, oP, none⟩) nd.parts.length cP nd.parts) := by
                        obtain ⟨cur, hty⟩ := HI2.out.f.type _ rfl
                        exact HRp.out.frm ((frm_setB3 (B := B) (by have := (HI2.out.f.lt _ rfl).1; omega) hty _).mono mndO_sp)
                      obtain ⟨b2, hb2⟩ : ∃ b2, b2 = bget s2.F (nth nd.parts i) := ⟨_, rfl⟩
                      have e2 : s2.F.getD pn false = b2 := by rw [hb2, hpn]; rfl
                      rw [e2] at f0
                      obtain ⟨bq, hbq⟩ : ∃ bq, bq = bget s1.C (nth nd.parts 0) := ⟨_, rfl⟩
                      have e3 : s2.C.getD qn false = bq := by rw [hbq, HP.out, partR_C, hqn]; rfl
                      rw [e3] at d0
                      have h20 : (0 : Int) ≤ (pn : Int) := by omega
                      have h22 : (pn : Int) < (T.length : Int) + 1 := by omega
                      have h23 : (qn : Int) < (T.length : Int) + 1 := by omega
                      have h24 : (0 : Int) < (nd.parts.length : Int) := by omega
                      clear hcx hpr hqr e2 e3 hqn
                      by_cases k3 : nd.kind = 3
                      · have e4 : (nd.kind == 3) = true := by simp [k3]
                        have hbo : openI s1.C nd i = true := by unfold openI; simp [k3]
                        clear k3 hbq
                        cases b2 with
                        | true =>
                          have HN : Hid (s2 = partR s1 nd (i + 1)) := by show _ = _; rw [partR_succ, hbo, if_pos rfl, ← HP.out, setF_had hb2.symm]
                          clear hb2 hbo
                          go_wp2_with fail
                          go_roundw
                          case rel => exact ⟨i + 1, s2, by omega, by go_num, rfl, HN, HI2, HXb, HRp⟩
                          case measure => simp [intOf]; omega
                        | false =>
                          have HN : Hid ((⟨s2.F.set pn true, s2.C, true⟩ : KS) = partR s1 nd (i + 1)) := by show _ = _; rw [partR_succ, hbo, if_pos rfl, ← HP.out, setF_new hb2.symm, hpn]; rfl
                          clear hb2 hbo
                          go_wp2_with fail
                          go_roundw
                          case rel => exact ⟨i + 1, _, by omega, by go_num, rfl, HN, HI3, HX3, HR3⟩
                          case measure => simp [intOf]; omega
                      have e4 : (nd.kind == 3) = false := by simp [k3]
                      by_cases k9 : nd.kind = 9
                      · have e5 : (nd.kind == 9) = true := by simp [k9]
                        have e6 : (nd.kind == 10) = false := by simp [k9]
                        by_cases i1 : i = 1
                        · have e7 : ((i : Int) == 1) = true := by simp; omega
                          have hbo : openI s1.C nd i = true := by unfold openI; simp [k9, i1]
                          clear k3 k9 i1 hbq
                          cases b2 with
                          | true =>
                            have HN : Hid (s2 = partR s1 nd (i + 1)) := by show _ = _; rw [partR_succ, hbo, if_pos rfl, ← HP.out, setF_had hb2.symm]
                            clear hb2 hbo
                            go_wp2_with fail
                            go_roundw
                            case rel => exact ⟨i + 1, s2, by omega, by go_num, rfl, HN, HI2, HXb, HRp⟩
                            case measure => simp [intOf]; omega
                          | false =>
                            have HN : Hid ((⟨s2.F.set pn true, s2.C, true⟩ : KS) = partR s1 nd (i + 1)) := by show _ = _; rw [partR_succ, hbo, if_pos rfl, ← HP.out, setF_new hb2.symm, hpn]; rfl
                            clear hb2 hbo
                            go_wp2_with fail
                            go_roundw
                            case rel => exact ⟨i + 1, _, by omega, by go_num, rfl, HN, HI3, HX3, HR3⟩
                            case measure => simp [intOf]; omega
                        · have e7 : ((i : Int) == 1) = false := by simp; omega
                          have hbo : openI s1.C nd i = false := by unfold openI; simp [k9, i1]
                          clear k3 k9 i1 hbq
                          have HN : Hid (s2 = partR s1 nd (i + 1)) := by show _ = _; rw [partR_succ, hbo, if_neg (by decide), ← HP.out]
                          clear hb2 hbo
                          go_wp2_with fail
                          go_roundw
                          case rel => exact ⟨i + 1, s2, by omega, by go_num, rfl, HN, HI2, HXb, HRp⟩
                          case measure => simp [intOf]; omega
                      have e5 : (nd.kind == 9) = false := by simp [k9]
                      by_cases k10 : nd.kind = 10
                      · have e6 : (nd.kind == 10) = true := by simp [k10]
                        by_cases i2 : i = 2
                        · have e7 : ((i : Int) == 2) = true := by simp; omega
                          cases bq with
                          | true =>
                            have hbo : openI s1.C nd i = true := by unfold openI; simp [k10, i2, ← hbq]
                            clear k3 k9 k10 i2 hbq
                            cases b2 with
                            | true =>
                              have HN : Hid (s2 = partR s1 nd (i + 1)) := by show _ = _; rw [partR_succ, hbo, if_pos rfl, ← HP.out, setF_had hb2.symm]
                              clear hb2 hbo
                              go_wp2_with fail
                              go_roundw
                              case rel => exact ⟨i + 1, s2, by omega, by go_num, rfl, HN, HI2, HXb, HRp⟩
                              case measure => simp [intOf]; omega
                            | false =>
                              have HN : Hid ((⟨s2.F.set pn true, s2.C, true⟩ : KS) = partR s1 nd (i + 1)) := by show _ = _; rw [partR_succ, hbo, if_pos rfl, ← HP.out, setF_new hb2.symm, hpn]; rfl
                              clear hb2 hbo
                              go_wp2_with fail
                              go_roundw
                              case rel => exact ⟨i + 1, _, by omega, by go_num, rfl, HN, HI3, HX3, HR3⟩
                              case measure => simp [intOf]; omega
                          | false =>
                            have hbo : openI s1.C nd i = false := by unfold openI; simp [k10, i2, ← hbq]
                            clear k3 k9 k10 i2 hbq
                            have HN : Hid (s2 = partR s1 nd (i + 1)) := by show _ = _; rw [partR_succ, hbo, if_neg (by decide), ← HP.out]
                            clear hb2 hbo
                            go_wp2_with fail
                            go_roundw
                            case rel => exact ⟨i + 1, s2, by omega, by go_num, rfl, HN, HI2, HXb, HRp⟩
                            case measure => simp [intOf]; omega
                        · have e7 : ((i : Int) == 2) = false := by simp; omega
                          have hbo : openI s1.C nd i = false := by unfold openI; simp [k10, i2]
                          clear k3 k9 k10 i2 hbq
                          have HN : Hid (s2 = partR s1 nd (i + 1)) := by show _ = _; rw [partR_succ, hbo, if_neg (by decide), ← HP.out]
                          clear hb2 hbo
                          go_wp2_with fail
                          go_roundw
                          case rel => exact ⟨i + 1, s2, by omega, by go_num, rfl, HN, HI2, HXb, HRp⟩
                          case measure => simp [intOf]; omega
                      have e6 : (nd.kind == 10) = false := by simp [k10]
                      have hbo : openI s1.C nd i = false := by unfold openI; simp [k3, k9, k10]
                      clear k3 k9 k10 hbq
                      have HN : Hid (s2 = partR s1 nd (i + 1)) := by show _ = _; rw [partR_succ, hbo, if_neg (by decide), ← HP.out]
                      clear hb2 hbo
                      go_wp2_with fail
                      go_roundw
                      case rel => exact ⟨i + 1, s2, by omega, by go_num, rfl, HN, HI2, HXb, HRp⟩
                      case measure => simp [intOf]; omega
                    · obtain rfl : i = nd.parts.length := by omega
                      have HE : Hid (s2 = passR T ⟨F, C, false⟩ (k + 1)) := by
                        show _ = _
                        rw [HNX.out, ← HS1.out, stepOpen_part HW.out HG.out HF1.out, HP.out]
                      go_wp2_with fail
                      go_roundw
                      case rel => exact ⟨k + 1, s2, by omega, by go_num, rfl, HE, HI2⟩
                      case measure => simp [intOf]; omega
              | true =>
                obtain ⟨s1, hs1⟩ : ∃ s1, s1 = stepMade (pubL T s.F) s ((k : Int) + 1) nd := ⟨_, rfl⟩
                have HS1 := Lib.hid hs1
                rw [stepMade_yes HBC.out.symm HBm.out.symm] at hs1
                have HF1 : Hid (bget s1.F ((k : Int) + 1) = bF) := by show _ = _; rw [hs1]; exact HBF.out.symm
                obtain ⟨W1, hW1⟩ : ∃ W1, W1 = w4.setCell ⟨g2, k + 1, none⟩ (.bool true) := ⟨_, rfl⟩
                have HI1 : Hid (FI B w rb g1 g2 T s1.F s1.C W1) := by
                  rw [hs1, hW1]
                  have := HI4.out.setC hB (j := k + 1) (by omega) true
                  show FI _ _ _ _ _ _ _ (s.C.set ((k : Int) + 1).toNat true) _
                  rw [h12]; exact this
                have hch : Value.bool true = .bool s1.ch := by rw [hs1]
                have HCH := Lib.hid hch
                have hcF := True.intro
                clear hs1 hch
                cases bF with
                | false =>
                  clear hcF
                  have HE : Hid (s1 = passR T ⟨F, C, false⟩ (k + 1)) := by
                    show _ = _
                    rw [HNX.out, ← HS1.out, stepOpen_no HF1.out]
                  go_wp2_with fail
                  rw [← hW1]
                  clear hW1
                  go_roundw
                  case rel => exact ⟨k + 1, s1, by omega, by go_num, HCH.out, HE, HI1⟩
                  case measure => simp [intOf]; omega
                | true =>
                  obtain ⟨gN, capN, AP, cP, c0, hcN, k0, k1, k2, hp⟩ := HI1.out.r.node3 hnd
                  have hpc := hp.cap
                  have hpm := hp.max
                  have hwl := True.intro
                  obtain ⟨W2, hW2⟩ : ∃ W2, W2 = (w4.setCell ⟨g2, k + 1, none⟩ (.bool true)).alloc (.cells #[.int .i64 nd.kind, .string nd.text, .slice AP nd.parts.length cP] 71) := ⟨_, rfl⟩
                  have hbW : Below W1.heap.size W1 W2 := by rw [hW2, hW1]; exact below_new _
                  have HXb : Hid (W2.heap[w4.heap.size]? = some (.cells #[.int .i64 nd.kind, .string nd.text, .slice AP nd.parts.length cP] 71 (0, 0))) := by
                    have h9 : (w4.setCell ⟨g2, k + 1, none⟩ (.bool true)).heap.size = w4.heap.size := by simp [World.setCell]
                    have h8 := heap_alloc_new (w4.setCell ⟨g2, k + 1, none⟩ (.bool true)) (.cells #[.int .i64 nd.kind, .string nd.text, .slice AP nd.parts.length cP] 71)
                    rw [h9] at h8
                    rw [hW2]; exact h8
                  have HI2 := Lib.hid (HI1.out.below hbW)
                  have HRp := Lib.hid (hp.below hbW)
                  have hbn1 : g1 ≠ w4.heap.size := by
                    have : g1 < W1.heap.size := (HI1.out.f.lt g1 rfl).2
                    rw [hW1] at this
                    have h9 : (w4.setCell ⟨g2, k + 1, none⟩ (.bool true)).heap.size = w4.heap.size := by simp [World.setCell]
                    omega
                  rw [hW1] at c0 k0 k1 k2
                  clear hp hbW hwl hcF
                  go_wp2_with fail
                  rw [← hW2]
                  clear hW2 c0 k0 k1 k2
                  go_loopw [10, 13] (fun v vi wy => ∃ (i : Nat) (s2 : KS), i ≤ nd.parts.length ∧ vi = .int .i64 i ∧ v = .bool s2.ch ∧ Hid (s2 = partR s1 nd i) ∧ Hid (FI B w rb g1 g2 T s2.F s2.C wy) ∧ Hid (wy.heap[w4.heap.size]? = some (.cells #[.int .i64 nd.kind, .string nd.text, .slice AP nd.parts.length cP] 71 (0, 0))) ∧ Hid (Rds B wy .i64 AP nd.parts.length cP nd.parts)) (fun _ vi _ => nd.parts.length - (intOf vi).toNat)
                  case atStart => exact ⟨0, s1, Nat.zero_le _, rfl, HCH.out, rfl, HI2, HXb, HRp⟩
                  case round =>
                    obtain ⟨i, s2, hi, rfl, rfl, HP, HI2, HXb, HRp⟩ := hrel
                    have x0 : wr.cell? ⟨w4.heap.size, 0, none⟩ = some (.int .i64 nd.kind) := by rw [cell_of_row wr _ 0 _ _ _ HXb.out]; rfl
                    have x2 : wr.cell? ⟨w4.heap.size, 2, none⟩ = some (.slice AP nd.parts.length cP) := by rw [cell_of_row wr _ 2 _ _ _ HXb.out]; rfl
                    by_cases hil : i < nd.parts.length
                    · obtain ⟨bP, oP, rfl, hcx⟩ := RdI.at_ HRp.out.cell (by omega)
                      have p0 := hcx i hil
                      have pz := hcx 0 (by omega)
                      rw [Nat.add_zero] at pz
                      have hpr := (HW.out.good k _ hnd).range (nth nd.parts i) (nth_mem hil)
                      have hqr := (HW.out.good k _ hnd).range (nth nd.parts 0) (nth_mem (by omega))
                      obtain ⟨pn, hpn⟩ : ∃ pn : Nat, nth nd.parts i = pn := ⟨(nth nd.parts i).toNat, by omega⟩
                      obtain ⟨qn, hqn⟩ : ∃ qn : Nat, nth nd.parts 0 = qn := ⟨(nth nd.parts 0).toNat, by omega⟩
                      rw [hpn] at hpr p0
                      rw [hqn] at hqr pz
                      obtain ⟨f0, f1, -, -⟩ := HI2.out.f.put HI2.out.lf (j := pn) (by omega)
                      obtain ⟨d0, -, -, -⟩ := HI2.out.c.put HI2.out.lc (j := qn) (by omega)
                      have HI3 := Lib.hid (HI2.out.setF hB (j := pn) (by omega) true)
                      have HX3 : Hid ((wr.setCell ⟨g1, pn, none⟩ (.bool true)).heap[w4.heap.size]? = some (.cells #[.int .i64 nd.kind, .string nd.text, .slice (some ⟨bP, oP, none⟩) nd.parts.length cP] 71 (0, 0))) := (mblk_other wr _ (fun q => hbn1 q.symm)).trans HXb.out
                      have HR3 : Hid (Rds B (wr.setCell ⟨g1, pn, none⟩ (.bool true)) .i64 (some ⟨bP, oP, none⟩) nd.parts.length cP nd.parts) := by
                        obtain ⟨cur, hty⟩ := HI2.out.f.type _ rfl
                        exact HRp.out.frm ((frm_setB3 (B := B) (by have := (HI2.out.f.lt _ rfl).1; omega) hty _).mono mndO_sp)
                      obtain ⟨b2, hb2⟩ : ∃ b2, b2 = bget s2.F (nth nd.parts i) := ⟨_, rfl⟩
                      have e2 : s2.F.getD pn false = b2 := by rw [hb2, hpn]; rfl
                      rw [e2] at f0
                      obtain ⟨bq, hbq⟩ : ∃ bq, bq = bget s1.C (nth nd.parts 0) := ⟨_, rfl⟩
                      have e3 : s2.C.getD qn false = bq := by rw [hbq, HP.out, partR_C, hqn]; rfl
                      rw [e3] at d0
                      have h20 : (0 : Int) ≤ (pn : Int) := by omega
                      have h22 : (pn : Int) < (T.length : Int) + 1 := by omega
                      have h23 : (qn : Int) < (T.length : Int) + 1 := by omega
                      have h24 : (0 : Int) < (nd.parts.length : Int) := by omega
                      clear hcx hpr hqr e2 e3 hqn
                      by_cases k3 : nd.kind = 3
                      · have e4 : (nd.kind == 3) = true := by simp [k3]
                        have hbo : openI s1.C nd i = true := by unfold openI; simp [k3]
                        clear k3 hbq
                        cases b2 with
                        | true =>
                          have HN : Hid (s2 = partR s1 nd (i + 1)) := by show _ = _; rw [partR_succ, hbo, if_pos rfl, ← HP.out, setF_had hb2.symm]
                          clear hb2 hbo
                          go_wp2_with fail
                          go_roundw
                          case rel => exact ⟨i + 1, s2, by omega, by go_num, rfl, HN, HI2, HXb, HRp⟩
                          case measure => simp [intOf]; omega
                        | false =>
                          have HN : Hid ((⟨s2.F.set pn true, s2.C, true⟩ : KS) = partR s1 nd (i + 1)) := by show _ = _; rw [partR_succ, hbo, if_pos rfl, ← HP.out, setF_new hb2.symm, hpn]; rfl
                          clear hb2 hbo
                          go_wp2_with fail
                          go_roundw
                          case rel => exact ⟨i + 1, _, by omega, by go_num, rfl, HN, HI3, HX3, HR3⟩
                          case measure => simp [intOf]; omega
                      have e4 : (nd.kind == 3) = false := by simp [k3]
                      by_cases k9 : nd.kind = 9
                      · have e5 : (nd.kind == 9) = true := by simp [k9]
                        have e6 : (nd.kind == 10) = false := by simp [k9]
                        by_cases i1 : i = 1
                        · have e7 : ((i : Int) == 1) = true := by simp; omega
                          have hbo : openI s1.C nd i = true := by unfold openI; simp [k9, i1]
                          clear k3 k9 i1 hbq
                          cases b2 with
                          | true =>
                            have HN : Hid (s2 = partR s1 nd (i + 1)) := by show _ = _; rw [partR_succ, hbo, if_pos rfl, ← HP.out, setF_had hb2.symm]
                            clear hb2 hbo
                            go_wp2_with fail
                            go_roundw
                            case rel => exact ⟨i + 1, s2, by omega, by go_num, rfl, HN, HI2, HXb, HRp⟩
                            case measure => simp [intOf]; omega
                          | false =>
                            have HN : Hid ((⟨s2.F.set pn true, s2.C, true⟩ : KS) = partR s1 nd (i + 1)) := by show _ = _; rw [partR_succ, hbo, if_pos rfl, ← HP.out, setF_new hb2.symm, hpn]; rfl
                            clear hb2 hbo
                            go_wp2_with fail
                            go_roundw
                            case rel => exact ⟨i + 1, _, by omega, by go_num, rfl, HN, HI3, HX3, HR3⟩
                            case measure => simp [intOf]; omega
                        · have e7 : ((i : Int) == 1) = false := by simp; omega
                          have hbo : openI s1.C nd i = false := by unfold openI; simp [k9, i1]
                          clear k3 k9 i1 hbq
                          have HN : Hid (s2 = partR s1 nd (i + 1)) := by show _ = _; rw [partR_succ, hbo, if_neg (by decide), ← HP.out]
                          clear hb2 hbo
                          go_wp2_with fail
                          go_roundw
                          case rel => exact ⟨i + 1, s2, by omega, by go_num, rfl, HN, HI2, HXb, HRp⟩
                          case measure => simp [intOf]; omega
                      have e5 : (nd.kind == 9) = false := by simp [k9]
                      by_cases k10 : nd.kind = 10
                      · have e6 : (nd.kind == 10) = true := by simp [k10]
                        by_cases i2 : i = 2
                        · have e7 : ((i : Int) == 2) = true := by simp; omega
                          cases bq with
                          | true =>
                            have hbo : openI s1.C nd i = true := by unfold openI; simp [k10, i2, ← hbq]
                            clear k3 k9 k10 i2 hbq
                            cases b2 with
                            | true =>
                              have HN : Hid (s2 = partR s1 nd (i + 1)) := by show _ = _; rw [partR_succ, hbo, if_pos rfl, ← HP.out, setF_had hb2.symm]
                              clear hb2 hbo
                              go_wp2_with fail
                              go_roundw
                              case rel => exact ⟨i + 1, s2, by omega, by go_num, rfl, HN, HI2, HXb, HRp⟩
                              case measure => simp [intOf]; omega
                            | false =>
                              have HN : Hid ((⟨s2.F.set pn true, s2.C, true⟩ : KS) = partR s1 nd (i + 1)) := by show _ = _; rw [partR_succ, hbo, if_pos rfl, ← HP.out, setF_new hb2.symm, hpn]; rfl
                              clear hb2 hbo
                              go_wp2_with fail
                              go_roundw
                              case rel => exact ⟨i + 1, _, by omega, by go_num, rfl, HN, HI3, HX3, HR3⟩
                              case measure => simp [intOf]; omega
                          | false =>
                            have hbo : openI s1.C nd i = false := by unfold openI; simp [k10, i2, ← hbq]
                            clear k3 k9 k10 i2 hbq
                            have HN : Hid (s2 = partR s1 nd (i + 1)) := by show _ = _; rw [partR_succ, hbo, if_neg (by decide), ← HP.out]
                            clear hb2 hbo
                            go_wp2_with fail
                            go_roundw
                            case rel => exact ⟨i + 1, s2, by omega, by go_num, rfl, HN, HI2, HXb, HRp⟩
                            case measure => simp [intOf]; omega
                        · have e7 : ((i : Int) == 2) = false := by simp; omega
                          have hbo : openI s1.C nd i = false := by unfold openI; simp [k10, i2]
                          clear k3 k9 k10 i2 hbq
                          have HN : Hid (s2 = partR s1 nd (i + 1)) := by show _ = _; rw [partR_succ, hbo, if_neg (by decide), ← HP.out]
                          clear hb2 hbo
                          go_wp2_with fail
                          go_roundw
                          case rel => exact ⟨i + 1, s2, by omega, by go_num, rfl, HN, HI2, HXb, HRp⟩
                          case measure => simp [intOf]; omega
                      have e6 : (nd.kind == 10) = false := by simp [k10]
                      have hbo : openI s1.C nd i = false := by unfold openI; simp [k3, k9, k10]
                      clear k3 k9 k10 hbq
                      have HN : Hid (s2 = partR s1 nd (i + 1)) := by show _ = _; rw [partR_succ, hbo, if_neg (by decide), ← HP.out]
                      clear hb2 hbo
                      go_wp2_with fail
                      go_roundw
                      case rel => exact ⟨i + 1, s2, by omega, by go_num, rfl, HN, HI2, HXb, HRp⟩
                      case measure => simp [intOf]; omega
                    · obtain rfl : i = nd.parts.length := by omega
                      have HE : Hid (s2 = passR T ⟨F, C, false⟩ (k + 1)) := by
                        show _ = _
                        rw [HNX.out, ← HS1.out, stepOpen_part HW.out HG.out HF1.out, HP.out]
                      go_wp2_with fail
                      go_roundw
                      case rel => exact ⟨k + 1, s2, by omega, by go_num, rfl, HE, HI2⟩
                      case measure => simp [intOf]; omega
          · obtain rfl : k = T.length := by omega
            have hnle : ¬ ((T.length : Int) + 1 ≤ (T.length : Int)) := by omega
            have hle0 := HS.out.1
            have hmore := passR_more HW.out hle0 T.length (Nat.le_refl _)
            have hsnd := passR_sound HW.out hle0 HS.out.2.1 T.length (Nat.le_refl _)
            have hcnt := pass_cnt HW.out hle0
            have hdone : s.ch = false → DoneK T (inT T base) s.F s.C := fun q => by
              rw [HP0.out] at q ⊢
              have := passR_done HW.out hle0 HS.out.2.1 HS.out.2.2.1 q
              rw [hmore.1.same q]
              exact this
            rw [← HP0.out] at hmore hsnd hcnt
            have HDN : Hid (s.ch = false → DoneK T (inT T base) s.F s.C) := hdone
            have HST : Hid (LenK T ⟨s.F, s.C, false⟩ ∧ SoundK T (inT T base) ⟨s.F, s.C, false⟩ ∧ (∀ h n, getT T h = some n → inT T base h → bget s.F h = true) ∧ bget s.C 0 = false) :=
              ⟨⟨hmore.2.F, hmore.2.C⟩, hsnd, fun h n a b => hmore.1.F h (HS.out.2.2.1 h n a b), by rw [HP0.out, passR_C0]; exact HS.out.2.2.2⟩
            have HMS : Hid (cntR (.bool s.ch) wz g1 g2 (T.length + 1) < 2 * (2 * (T.length + 1) - (cntB F + cntB C)) + 1) := by
              show _ < _
              rw [cntR_at HI.out s.ch]
              have l1 := cntB_le s.F
              have l2 := cntB_le s.C
              rw [hmore.2.F] at l1
              rw [hmore.2.C] at l2
              cases hq : s.ch with
              | true => have := hcnt hq; simp only [if_pos]; omega
              | false =>
                have := hmore.1.same hq
                rw [this]
                simp
            clear hle0 hmore hsnd hcnt hdone
            go_wp2_with fail
            go_roundw
            case rel => exact ⟨s.ch, s.F, s.C, rfl, HDN, HST, HI⟩
            case measure =>
              have h0 := HC0.out
              have h1 := HMS.out
              simp only [if_pos] at h0
              omega
  | _ => exact h.elim
end Go.Proofs.Ytmaedahleenlgaa
