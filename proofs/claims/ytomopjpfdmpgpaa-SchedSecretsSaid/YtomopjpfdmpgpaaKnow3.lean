/- know.grow and Learn (layer 3): the walks. No condition. -/
import Derived.Test.YtomopjpfdmpgpaaKnow2
set_option linter.unusedVariables false
set_option linter.unusedSimpArgs false
namespace Go.Proofs.Ytomopjpfdmpgpaa
open Go Go.RowKit

theorem rep_snoc (F : List Bool) (j : Nat) : F ++ List.replicate j false ++ [false] = F ++ List.replicate (j + 1) false := by
  rw [List.append_assoc, ← List.replicate_succ']
/-- A step of a mind's that begins at w and stands at w'. -/
structure MStep (B : Nat) (w : World) (mb : Nat) (tp : Option Addr) (v1 v2 : Value) (u1 u2 : Value) (F C : List Bool) (size : Nat) (fresh : Bool) (w' : World) : Prop where
  at_ : MindAt B w' mb tp u1 u2 F C size fresh
  fr : MFrm (mS mb v1 v2) w w'
  o1 : ∀ g, u1.ownBlock = some g → v1.ownBlock = some g ∨ w.heap.size ≤ g
  o2 : ∀ g, u2.ownBlock = some g → v2.ownBlock = some g ∨ w.heap.size ≤ g
theorem MStep.to {B : Nat} {w : World} {mb : Nat} {tp : Option Addr} {v1 v2 u1 u2 : Value} {F C : List Bool} {size : Nat} {fresh : Bool} {w' : World} (h : MStep B w mb tp v1 v2 u1 u2 F C size fresh w') : MindTo B w mb tp v1 v2 F C size fresh w' := ⟨u1, u2, h.at_, h.fr, h.o1, h.o2⟩
theorem MStep.refl {B : Nat} {w : World} {mb : Nat} {tp : Option Addr} {v1 v2 : Value} {F C : List Bool} {size : Nat} {fresh : Bool} (h : MindAt B w mb tp v1 v2 F C size fresh) : MStep B w mb tp v1 v2 v1 v2 F C size fresh w := ⟨h, .refl _ _, fun _ e => .inl e, fun _ e => .inl e⟩
theorem MStep.next {B : Nat} {w w1 w2 : World} {mb : Nat} {tp : Option Addr} {v1 v2 u1 u2 x1 x2 : Value} {F C F' C' : List Bool} {size size' : Nat} {fresh fresh' : Bool} (h : MStep B w mb tp v1 v2 u1 u2 F C size fresh w1) (k : MStep B w1 mb tp u1 u2 x1 x2 F' C' size' fresh' w2) : MStep B w mb tp v1 v2 x1 x2 F' C' size' fresh' w2 := by
  refine ⟨k.at_, h.fr.trans k.fr (MindTo.sub (B := B) (w' := w1) h.o1 h.o2), fun g e => ?_, fun g e => ?_⟩
  · rcases k.o1 g e with q | q
    · exact h.o1 g q
    · exact .inr (Nat.le_trans h.fr.size q)
  · rcases k.o2 g e with q | q
    · exact h.o2 g q
    · exact .inr (Nat.le_trans h.fr.size q)
theorem MStep.below {B : Nat} {w w1 w2 : World} {mb : Nat} {tp : Option Addr} {v1 v2 u1 u2 : Value} {F C : List Bool} {size : Nat} {fresh : Bool} (h : MStep B w mb tp v1 v2 u1 u2 F C size fresh w1) (hb : Below w1.heap.size w1 w2) : MStep B w mb tp v1 v2 u1 u2 F C size fresh w2 :=
  h.next ⟨h.at_.below hb, .of_below hb, fun _ e => .inl e, fun _ e => .inl e⟩
theorem MStep.fresh {B : Nat} {w w1 : World} {mb : Nat} {tp : Option Addr} {v1 v2 u1 u2 : Value} {F C : List Bool} {size : Nat} {fresh : Bool} (h : MStep B w mb tp v1 v2 u1 u2 F C size fresh w1) (b : Bool) : MStep B w mb tp v1 v2 u1 u2 F C size b (w1.setCell ⟨mb, 4, none⟩ (.bool b)) :=
  h.next ⟨h.at_.setFresh b, .set _ _ _ (.inl rfl), fun _ e => .inl e, fun _ e => .inl e⟩
theorem MStep.size {B : Nat} {w w1 : World} {mb : Nat} {tp : Option Addr} {v1 v2 u1 u2 : Value} {F C : List Bool} {size : Nat} {fresh : Bool} (h : MStep B w mb tp v1 v2 u1 u2 F C size fresh w1) (n : Nat) : MStep B w mb tp v1 v2 u1 u2 F C n fresh (w1.setCell ⟨mb, 3, none⟩ (.int .i64 n)) :=
  h.next ⟨h.at_.setSize n, .set _ _ _ (.inl rfl), fun _ e => .inl e, fun _ e => .inl e⟩
/-- The first row takes one more. -/
theorem MStep.pushF {B : Nat} {w w1 w2 : World} {mb : Nat} {tp : Option Addr} {v1 v2 u1 u2 x1 : Value} {F F' C : List Bool} {size : Nat} {fresh : Bool} (h : MStep B w mb tp v1 v2 u1 u2 F C size fresh w1) (hg : w1.grownBy w2 u1.ownBlock) (ho : OwnB w2 B x1 F') (hn : ∀ g, x1.ownBlock = some g → u1.ownBlock = some g ∨ w1.heap.size ≤ g) :
    MStep B w mb tp v1 v2 x1 u2 F' C size fresh (w2.setCell ⟨mb, 1, none⟩ x1) := by
  have k := (h.at_.pushF hg ho hn).1
  exact h.next ⟨k, (MFrm.of_grown hg fun i e => .inr (.inl e)).trans (MFrm.set (S := mS mb u1 u2) w2 ⟨mb, 1, none⟩ x1 (.inl rfl)) fun i q => .inl q, hn, fun _ e => .inl e⟩
theorem MStep.pushC {B : Nat} {w w1 w2 : World} {mb : Nat} {tp : Option Addr} {v1 v2 u1 u2 x2 : Value} {F C C' : List Bool} {size : Nat} {fresh : Bool} (h : MStep B w mb tp v1 v2 u1 u2 F C size fresh w1) (hg : w1.grownBy w2 u2.ownBlock) (ho : OwnB w2 B x2 C') (hn : ∀ g, x2.ownBlock = some g → u2.ownBlock = some g ∨ w1.heap.size ≤ g) :
    MStep B w mb tp v1 v2 u1 x2 F C' size fresh (w2.setCell ⟨mb, 2, none⟩ x2) := by
  have k := (h.at_.pushC hg ho hn).1
  exact h.next ⟨k, (MFrm.of_grown hg fun i e => .inr (.inr e)).trans (MFrm.set (S := mS mb u1 u2) w2 ⟨mb, 2, none⟩ x2 (.inl rfl)) fun i q => .inl q, fun _ e => .inl e, hn⟩

set_option maxHeartbeats 3200000 in
set_option maxRecDepth 100000 in
theorem mgrow_any {B : Nat} {mb : Nat} {tp : Option Addr} {v1 v2 : Value} {F C : List Bool} {size : Nat} {fresh : Bool} {T : List Nd} (w : World) (hm : MindAt B w mb tp v1 v2 F C size fresh) (ht : TabAt B w tp T) (hl : F.length = C.length) (hF : F.length ≤ T.length + 1) :
    Calls Try.prog 69 #[.pointer (some ⟨mb, 0, none⟩)] w fun e w' => e = .returned (.tuple #[]) ∧ ∃ u1 u2, MStep B w mb tp v1 v2 u1 u2 (growL F T.length) (growL C T.length) T.length (fresh && decide (T.length = size)) w' := by
  have key := ksize_any w ht
  have hT := ht.wf.len
  obtain ⟨n, hn⟩ : ∃ n, n = T.length := ⟨_, rfl⟩
  rw [← hn] at key hT hF ⊢
  clear ht hn
  obtain ⟨x0, x1, x2, x3, x4⟩ := hm.cells
  have f4 := hm.free 4
  have HM := Lib.hid (MStep.refl hm)
  have HL := Lib.hid hl
  have HF := Lib.hid hF
  have HB : Hid (B ≤ w.heap.size) := Nat.le_trans hm.base (Nat.le_of_lt hm.lt)
  obtain ⟨A1, c1, e1⟩ := hm.f.slice
  obtain ⟨A2, c2, e2⟩ := hm.c.slice
  clear hm hl hF
  rw [e1] at x1
  rw [e2] at x2
  obtain ⟨fr, hfr⟩ : ∃ fr, fr = (fresh && decide (n = size)) := ⟨_, rfl⟩
  have HFR := Lib.hid hfr
  rw [← hfr]
  clear hfr e1 e2
  go_enter Try.func69, Try.ntmps69
  go_wp2_with fail
  refine key.mono ?_
  clear key
  rintro e w1 ⟨rfl, hw1⟩
  subst hw1
  by_cases hs : n = size
  rotate_left
  · have hsb : ((n : Int) != (size : Int)) = true := by rw [bne_iff_ne]; omega
    have hfr : fr = false := by rw [HFR.out, decide_eq_false hs]; cases fresh <;> rfl
    have HM1 := Lib.hid (HM.out.fresh false)
    obtain ⟨W, hW⟩ : ∃ W, W = w1.setCell ⟨mb, 4, none⟩ (.bool false) := ⟨_, rfl⟩
    rw [← hW, ← hfr] at HM1
    clear hs HFR hfr
    go_wp2_with fail
    rw [← hW]
    clear hW

    go_loopw [] (fun wr => ∃ (j : Nat) (u1 u2 : Value), j ≤ n + 1 - F.length ∧ Hid (MStep B w1 mb tp v1 v2 u1 u2 (F ++ List.replicate j false) (C ++ List.replicate j false) size fr wr)) (fun wr => n + 1 - mlen mb wr)
    case atStart => exact ⟨0, v1, v2, Nat.zero_le _, Lib.hid (by simpa using HM1.out)⟩
    case round =>
      obtain ⟨j, u1, u2, hj, hM⟩ := hrel
      have hlen : mlen mb wr = F.length + j := by rw [hM.out.at_.mlen]; simp
      have HLEN := Lib.hid hlen
      obtain ⟨G, hG⟩ : ∃ G, G = F ++ List.replicate j false := ⟨_, rfl⟩
      obtain ⟨D, hD⟩ : ∃ D, D = C ++ List.replicate j false := ⟨_, rfl⟩
      have hGl : G.length = F.length + j := by rw [hG]; simp
      have hDl : D.length = F.length + j := by rw [hD]; simp [HL.out]
      rw [← hG, ← hD] at hM
      obtain ⟨z0, z1, z2, z3, z4⟩ := hM.out.at_.cells
      obtain ⟨B1, d1, b1⟩ := hM.out.at_.f.slice
      obtain ⟨B2, d2, b2⟩ := hM.out.at_.c.slice
      have HG := Lib.hid hG
      have HD := Lib.hid hD
      have hGl' := Lib.hid hGl
      have hDl' := Lib.hid hDl
      by_cases hlt : F.length + j ≤ n
      · have hle : (G.length : Int) ≤ (n : Int) := by omega
        have hB1 : B ≤ wr.heap.size := Nat.le_trans HB.out hM.out.fr.size
        have HOF := Lib.hid (hM.out.at_.f.below (below_new (.cells #[.bool false] 4)))
        have HMa := Lib.hid (hM.out.below (below_new (.cells #[.bool false] 4)))
        have hG6 : G.length ≤ 1000000 := by omega
        have hD6 : D.length ≤ 1000000 := by omega
        have HHF := Lib.hid HF.out
        subst b1
        clear hG hD hlen hGl hDl x0 x1 x2 x3 x4 f4
        have HC1 : Hid ((wr.alloc (.cells #[.bool false] 4)).cell? ⟨wr.heap.size, 0, none⟩ = some (.bool false)) := by show _ = _; simp [go_sem]
        have HS1 : Hid (B ≤ (wr.alloc (.cells #[.bool false] 4)).heap.size) := by show _ ≤ _; simp; omega
        go_wp2_with (at_builtin; refine wp_appB (b := false) rfl _ _ rfl rfl rfl HOF.out rfl HC1.out HS1.out hG6 ?_)
        intro x1' w2 ho hg hn
        obtain ⟨G', hG'⟩ : ∃ G', G' = G ++ [false] := ⟨_, rfl⟩
        have hGl1 : G'.length = G.length + 1 := by rw [hG']; simp
        rw [← hG'] at ho
        replace hn : ∀ g, x1'.ownBlock = some g → (Value.slice B1 G.length d1).ownBlock = some g ∨ (wr.alloc (.cells #[.bool false] 4)).heap.size ≤ g := by simpa using hn
        have hp := (HMa.out.at_.pushF hg ho hn).2.trans HMa.out.at_.blk
        have HM2 := Lib.hid (HMa.out.pushF hg ho hn)
        have k1 : w2.cell? ⟨mb, 1, none⟩ = some (.slice B1 G.length d1) := by rw [cell_of_row w2 _ 1 _ _ _ hp]; rfl
        have k2 : w2.cell? ⟨mb, 2, none⟩ = some u2 := by rw [cell_of_row w2 _ 2 _ _ _ hp]; rfl
        have fr1 : w2.frozen? ⟨mb, 1, none⟩ = false := by simp [World.frozen?, hp]
        obtain ⟨E1, g1, q1⟩ := ho.slice
        subst q1
        subst b2
        obtain ⟨w3, hw3⟩ : ∃ w3, w3 = w2.setCell ⟨mb, 1, none⟩ (.slice E1 G'.length g1) := ⟨_, rfl⟩
        rw [← hw3] at HM2
        have HMb := Lib.hid (HM2.out.below (below_new (.cells #[.bool false] 4)))
        have HOC := Lib.hid (HM2.out.at_.c.below (below_new (.cells #[.bool false] 4)))
        have HC2 : Hid ((w3.alloc (.cells #[.bool false] 4)).cell? ⟨w3.heap.size, 0, none⟩ = some (.bool false)) := by show _ = _; simp [go_sem]
        have HS2 : Hid (B ≤ (w3.alloc (.cells #[.bool false] 4)).heap.size) := by show _ ≤ _; have := HM2.out.at_.lt; have := HM2.out.at_.base; simp; omega
        have hs3 : w3.heap.size = w2.heap.size := by rw [hw3]; simp [World.setCell]
        rw [hs3] at HC2
        rw [hw3] at HC2 HS2 HOC
        have HW3 := Lib.hid hw3
        have HGG := Lib.hid hG'
        have HGL1 := Lib.hid hGl1
        clear hp ho hg hn z0 z1 z2 z3 z4 HMa HOF HC1 HS1 hM hw3 hs3 hG' hGl1 HM2
        go_wp2_with (at_builtin; refine wp_appB (b := false) rfl _ _ rfl rfl rfl HOC.out rfl HC2.out HS2.out hD6 ?_)
        intro x2' w4 ho hg hn
        rw [← HW3.out] at hg
        obtain ⟨D', hD'⟩ : ∃ D', D' = D ++ [false] := ⟨_, rfl⟩
        rw [← hD'] at ho
        have hss : w2.heap.size + 1 = (w3.alloc (.cells #[.bool false] 4)).heap.size := by rw [HW3.out]; simp [World.setCell]
        rw [hss] at hn
        have hp := (HMb.out.at_.pushC hg ho hn).2.trans HMb.out.at_.blk
        have HM4 := Lib.hid (HMb.out.pushC hg ho hn)
        have k3 : w4.cell? ⟨mb, 2, none⟩ = some (.slice B2 D.length d2) := by rw [cell_of_row w4 _ 2 _ _ _ hp]; rfl
        have fr3 : w4.frozen? ⟨mb, 2, none⟩ = false := by simp [World.frozen?, hp]
        obtain ⟨E2, g2, q2⟩ := ho.slice
        subst q2
        have HDD := Lib.hid hD'
        clear hp ho hg hn hss hD' k1 k2 fr1 HMb HOC HC2 HS2
        go_wp2_with fail
        go_roundw
        case rel =>
          refine ⟨j + 1, .slice E1 G'.length g1, .slice E2 D'.length g2, by omega, ?_⟩
          have e1 : G' = F ++ List.replicate (j + 1) false := by rw [HGG.out, HG.out, rep_snoc]
          have e2 : D' = C ++ List.replicate (j + 1) false := by rw [HDD.out, HD.out, rep_snoc]
          rw [← e1, ← e2]
          exact HM4
        case measure =>
          have e1 := HM4.out.at_.mlen
          rw [e1, HLEN.out, HGL1.out, hGl'.out]
          omega
      · have hle : ¬ (G.length : Int) ≤ (n : Int) := by omega
        have f3 := hM.out.at_.free 3
        subst b1
        have hj' : n + 1 - F.length = j := by have := HF.out; omega
        have e1 : growL F n = G := by rw [HG.out]; unfold growL; rw [hj']
        have e2 : growL C n = D := by rw [HD.out]; unfold growL; rw [← HL.out, hj']
        have HE := Lib.hid e1
        have HE' := Lib.hid e2
        clear hG hD hlen hGl hDl x0 x1 x2 x3 x4 f4 hj' e1 e2
        go_wp2_with fail
        go_end0
        refine ⟨rfl, .slice B1 G.length d1, u2, ?_⟩
        rw [HE.out, HE'.out]
        exact hM.out.size n
  · have hsb : ((n : Int) != (size : Int)) = false := by rw [bne_eq_false_iff_eq]; omega
    have hfr : fresh = fr := by rw [HFR.out, decide_eq_true hs]; cases fresh <;> rfl
    have HM1 := HM
    rw [hfr] at HM1
    clear hs HFR hfr
    go_wp2_with fail

    go_loopw [] (fun wr => ∃ (j : Nat) (u1 u2 : Value), j ≤ n + 1 - F.length ∧ Hid (MStep B w1 mb tp v1 v2 u1 u2 (F ++ List.replicate j false) (C ++ List.replicate j false) size fr wr)) (fun wr => n + 1 - mlen mb wr)
    case atStart => exact ⟨0, v1, v2, Nat.zero_le _, Lib.hid (by simpa using HM1.out)⟩
    case round =>
      obtain ⟨j, u1, u2, hj, hM⟩ := hrel
      have hlen : mlen mb wr = F.length + j := by rw [hM.out.at_.mlen]; simp
      have HLEN := Lib.hid hlen
      obtain ⟨G, hG⟩ : ∃ G, G = F ++ List.replicate j false := ⟨_, rfl⟩
      obtain ⟨D, hD⟩ : ∃ D, D = C ++ List.replicate j false := ⟨_, rfl⟩
      have hGl : G.length = F.length + j := by rw [hG]; simp
      have hDl : D.length = F.length + j := by rw [hD]; simp [HL.out]
      rw [← hG, ← hD] at hM
      obtain ⟨z0, z1, z2, z3, z4⟩ := hM.out.at_.cells
      obtain ⟨B1, d1, b1⟩ := hM.out.at_.f.slice
      obtain ⟨B2, d2, b2⟩ := hM.out.at_.c.slice
      have HG := Lib.hid hG
      have HD := Lib.hid hD
      have hGl' := Lib.hid hGl
      have hDl' := Lib.hid hDl
      by_cases hlt : F.length + j ≤ n
      · have hle : (G.length : Int) ≤ (n : Int) := by omega
        have hB1 : B ≤ wr.heap.size := Nat.le_trans HB.out hM.out.fr.size
        have HOF := Lib.hid (hM.out.at_.f.below (below_new (.cells #[.bool false] 4)))
        have HMa := Lib.hid (hM.out.below (below_new (.cells #[.bool false] 4)))
        have hG6 : G.length ≤ 1000000 := by omega
        have hD6 : D.length ≤ 1000000 := by omega
        have HHF := Lib.hid HF.out
        subst b1
        clear hG hD hlen hGl hDl x0 x1 x2 x3 x4 f4
        have HC1 : Hid ((wr.alloc (.cells #[.bool false] 4)).cell? ⟨wr.heap.size, 0, none⟩ = some (.bool false)) := by show _ = _; simp [go_sem]
        have HS1 : Hid (B ≤ (wr.alloc (.cells #[.bool false] 4)).heap.size) := by show _ ≤ _; simp; omega
        go_wp2_with (at_builtin; refine wp_appB (b := false) rfl _ _ rfl rfl rfl HOF.out rfl HC1.out HS1.out hG6 ?_)
        intro x1' w2 ho hg hn
        obtain ⟨G', hG'⟩ : ∃ G', G' = G ++ [false] := ⟨_, rfl⟩
        have hGl1 : G'.length = G.length + 1 := by rw [hG']; simp
        rw [← hG'] at ho
        replace hn : ∀ g, x1'.ownBlock = some g → (Value.slice B1 G.length d1).ownBlock = some g ∨ (wr.alloc (.cells #[.bool false] 4)).heap.size ≤ g := by simpa using hn
        have hp := (HMa.out.at_.pushF hg ho hn).2.trans HMa.out.at_.blk
        have HM2 := Lib.hid (HMa.out.pushF hg ho hn)
        have k1 : w2.cell? ⟨mb, 1, none⟩ = some (.slice B1 G.length d1) := by rw [cell_of_row w2 _ 1 _ _ _ hp]; rfl
        have k2 : w2.cell? ⟨mb, 2, none⟩ = some u2 := by rw [cell_of_row w2 _ 2 _ _ _ hp]; rfl
        have fr1 : w2.frozen? ⟨mb, 1, none⟩ = false := by simp [World.frozen?, hp]
        obtain ⟨E1, g1, q1⟩ := ho.slice
        subst q1
        subst b2
        obtain ⟨w3, hw3⟩ : ∃ w3, w3 = w2.setCell ⟨mb, 1, none⟩ (.slice E1 G'.length g1) := ⟨_, rfl⟩
        rw [← hw3] at HM2
        have HMb := Lib.hid (HM2.out.below (below_new (.cells #[.bool false] 4)))
        have HOC := Lib.hid (HM2.out.at_.c.below (below_new (.cells #[.bool false] 4)))
        have HC2 : Hid ((w3.alloc (.cells #[.bool false] 4)).cell? ⟨w3.heap.size, 0, none⟩ = some (.bool false)) := by show _ = _; simp [go_sem]
        have HS2 : Hid (B ≤ (w3.alloc (.cells #[.bool false] 4)).heap.size) := by show _ ≤ _; have := HM2.out.at_.lt; have := HM2.out.at_.base; simp; omega
        have hs3 : w3.heap.size = w2.heap.size := by rw [hw3]; simp [World.setCell]
        rw [hs3] at HC2
        rw [hw3] at HC2 HS2 HOC
        have HW3 := Lib.hid hw3
        have HGG := Lib.hid hG'
        have HGL1 := Lib.hid hGl1
        clear hp ho hg hn z0 z1 z2 z3 z4 HMa HOF HC1 HS1 hM hw3 hs3 hG' hGl1 HM2
        go_wp2_with (at_builtin; refine wp_appB (b := false) rfl _ _ rfl rfl rfl HOC.out rfl HC2.out HS2.out hD6 ?_)
        intro x2' w4 ho hg hn
        rw [← HW3.out] at hg
        obtain ⟨D', hD'⟩ : ∃ D', D' = D ++ [false] := ⟨_, rfl⟩
        rw [← hD'] at ho
        have hss : w2.heap.size + 1 = (w3.alloc (.cells #[.bool false] 4)).heap.size := by rw [HW3.out]; simp [World.setCell]
        rw [hss] at hn
        have hp := (HMb.out.at_.pushC hg ho hn).2.trans HMb.out.at_.blk
        have HM4 := Lib.hid (HMb.out.pushC hg ho hn)
        have k3 : w4.cell? ⟨mb, 2, none⟩ = some (.slice B2 D.length d2) := by rw [cell_of_row w4 _ 2 _ _ _ hp]; rfl
        have fr3 : w4.frozen? ⟨mb, 2, none⟩ = false := by simp [World.frozen?, hp]
        obtain ⟨E2, g2, q2⟩ := ho.slice
        subst q2
        have HDD := Lib.hid hD'
        clear hp ho hg hn hss hD' k1 k2 fr1 HMb HOC HC2 HS2
        go_wp2_with fail
        go_roundw
        case rel =>
          refine ⟨j + 1, .slice E1 G'.length g1, .slice E2 D'.length g2, by omega, ?_⟩
          have e1 : G' = F ++ List.replicate (j + 1) false := by rw [HGG.out, HG.out, rep_snoc]
          have e2 : D' = C ++ List.replicate (j + 1) false := by rw [HDD.out, HD.out, rep_snoc]
          rw [← e1, ← e2]
          exact HM4
        case measure =>
          have e1 := HM4.out.at_.mlen
          rw [e1, HLEN.out, HGL1.out, hGl'.out]
          omega
      · have hle : ¬ (G.length : Int) ≤ (n : Int) := by omega
        have f3 := hM.out.at_.free 3
        subst b1
        have hj' : n + 1 - F.length = j := by have := HF.out; omega
        have e1 : growL F n = G := by rw [HG.out]; unfold growL; rw [hj']
        have e2 : growL C n = D := by rw [HD.out]; unfold growL; rw [← HL.out, hj']
        have HE := Lib.hid e1
        have HE' := Lib.hid e2
        clear hG hD hlen hGl hDl x0 x1 x2 x3 x4 f4 hj' e1 e2
        go_wp2_with fail
        go_end0
        refine ⟨rfl, .slice B1 G.length d1, u2, ?_⟩
        rw [HE.out, HE'.out]
        exact hM.out.size n
end Go.Proofs.Ytomopjpfdmpgpaa
