/- know.Closed, know.Can; a mind that is not there (layer 3). No condition. -/
import Derived.Test.YtmaedahleenlgaaKnow11
set_option linter.unusedVariables false
set_option linter.unusedSimpArgs false
namespace Go.Proofs.Ytmaedahleenlgaa
open Go Go.RowKit

theorem KStep.own {B : Nat} {w w' : World} {mb : Nat} {tp : Option Addr} {v1 v2 u1 u2 : Value} {T : List Nd} {S : Int → Prop} {D : Nat} (h : KStep B w mb tp v1 v2 u1 u2 T S w') (hD : D ≤ w.heap.size) (hs : ∀ k, mS mb v1 v2 k → D ≤ k) : Below D w w' ∧ ∀ k, mS mb u1 u2 k → D ≤ k := by
  refine ⟨h.fr.below hD hs, fun k q => ?_⟩
  rcases q with e | e | e
  · exact hs k (.inl e)
  · rcases h.o1 k e with q | q
    · exact hs k (.inr (.inl q))
    · omega
  · rcases h.o2 k e with q | q
    · exact hs k (.inr (.inr q))
    · omega
set_option maxHeartbeats 1600000 in
theorem closed_any {B : Nat} {tp : Option Addr} {T : List Nd} (l : List Int) (A : Option Addr) (c : Nat) (w : World) (ht : TabAt B w tp T) (hB : B ≤ w.heap.size) (hr : Rds 0 w .i64 A l.length c l) (hln : l.length ≤ 1000000) :
    Calls Try.prog 23 #[.pointer tp, .slice A l.length c] w fun e w' => ∃ A' c', e = .returned (.slice A' (knL T (inT T l)).length c') ∧ OwnI w' w.heap.size .i64 (.slice A' (knL T (inT T l)).length c') (knL T (inT T l)) ∧ Below w.heap.size w w' := by
  have hwf := ht.wf
  have hl : l.length ≤ c := hr.cap
  go_enter Try.func23, Try.ntmps23
  go_wp2_with fail
  refine (knew_any B tp w hB).mono ?_
  rintro e w1 ⟨rfl, hm, hb1⟩
  have hm1 := MindV.new hwf hm
  have ht1 := ht.below hb1
  have hs1 := hb1.size
  have HB1 := Lib.hid hb1
  go_wp2_with fail
  refine (vlearn_any l A c w1 hm1 ht1 (hr.below hb1) hln).mono ?_
  rintro e w2 ⟨rfl, u1, u2, hk⟩
  have h2 := hk.own hs1 (fun k q => by rcases q with e | e | e; exact Nat.le_of_eq e.symm; cases e; cases e)
  have ht2 := ht1.mnd (hk.frm hm1)
  have hm2 := hk.m.iff (S' := inT T l) fun x => ⟨fun q => q.elim (fun f => f.elim) id, .inr⟩
  have HB2 := Lib.hid h2
  go_wp2_with fail
  refine (vknows_any w2 hm2 ht2).mono ?_
  rintro e w3 ⟨A', c', rfl, ho, x1, x2, hk3⟩
  have hs2 := HB2.out.1.size
  have h3 := hk3.own (D := w.heap.size) (by omega) HB2.out.2
  have hf := (HB1.out.trans (HB2.out.1)).trans h3.1
  go_wp2_with fail
  go_ret
  exact ⟨A', c', rfl, ho.mono (by omega), hf⟩
set_option maxHeartbeats 1600000 in
theorem kcan_any {B : Nat} {tp : Option Addr} {T : List Nd} (l : List Int) (A : Option Addr) (c : Nat) (h : Int) (hh : h ≤ 9223372036854775807) (w : World) (ht : TabAt B w tp T) (hB : B ≤ w.heap.size) (hr : Rds 0 w .i64 A l.length c l) (hln : l.length ≤ 1000000) :
    Calls Try.prog 24 #[.pointer tp, .slice A l.length c, .int .i64 h] w fun e w' => e = .returned (.bool (knB T (inT T l) false h)) ∧ Below w.heap.size w w' := by
  have hwf := ht.wf
  have hl : l.length ≤ c := hr.cap
  go_enter Try.func24, Try.ntmps24
  go_wp2_with fail
  refine (knew_any B tp w hB).mono ?_
  rintro e w1 ⟨rfl, hm, hb1⟩
  have hm1 := MindV.new hwf hm
  have ht1 := ht.below hb1
  have hs1 := hb1.size
  have HB1 := Lib.hid hb1
  go_wp2_with fail
  refine (vlearn_any l A c w1 hm1 ht1 (hr.below hb1) hln).mono ?_
  rintro e w2 ⟨rfl, u1, u2, hk⟩
  have h2 := hk.own hs1 (fun k q => by rcases q with e | e | e; exact Nat.le_of_eq e.symm; cases e; cases e)
  have ht2 := ht1.mnd (hk.frm hm1)
  have hm2 := hk.m.iff (S' := inT T l) fun x => ⟨fun q => q.elim (fun f => f.elim) id, .inr⟩
  have HB2 := Lib.hid h2
  go_wp2_with fail
  refine (vcan_any h hh w2 hm2 ht2).mono ?_
  rintro e w3 ⟨rfl, x1, x2, hk3⟩
  have hs2 := HB2.out.1.size
  have h3 := hk3.own (D := w.heap.size) (by omega) HB2.out.2
  have hf := (HB1.out.trans (HB2.out.1)).trans h3.1
  go_wp2_with fail
  go_ret
  exact ⟨rfl, hf⟩
set_option maxHeartbeats 800000 in
theorem learn_nil (v : Value) (w : World) : Calls Try.prog 13 #[.pointer none, v] w fun e w' => e = .returned (.tuple #[]) ∧ w' = w := by
  go_enter Try.func13, Try.ntmps13
  go_wp2_with fail
  refine bodyPost_ret (results_none rfl _ _ _) rfl ?_
  exact ⟨rfl, rfl⟩
set_option maxHeartbeats 800000 in
theorem can_nil (h : Int) (w : World) : Calls Try.prog 17 #[.pointer none, .int .i64 h] w fun e w' => e = .returned (.bool false) ∧ w' = w := by
  go_enter Try.func17, Try.ntmps17
  go_wp2_with fail
  go_ret
  exact ⟨rfl, rfl⟩
set_option maxHeartbeats 800000 in
theorem knows_nil (w : World) : Calls Try.prog 16 #[.pointer none] w fun e w' => e = .returned (.slice none 0 0) ∧ Below w.heap.size w w' := by
  have HB : Hid (Below w.heap.size w (w.alloc (.cells #[.pointer none] 27))) := below_new _
  go_enter Try.func16, Try.ntmps16
  go_wp2_with fail
  go_ret
  exact ⟨rfl, HB.out⟩
end Go.Proofs.Ytmaedahleenlgaa
