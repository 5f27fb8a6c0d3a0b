/- Helpers of the laws of layer 3: awake, terms. No condition. -/
import Derived.Test.YtmaedahleenlgaaKnow12
import Derived.Test.YtmaedahleenlgaaAwake2
import Derived.Test.YtmaedahleenlgaaStepsN
set_option linter.unusedVariables false
set_option linter.unusedSimpArgs false
namespace Go.Proofs.Ytmaedahleenlgaa
open Go Go.RowKit Go.WideMaps

theorem ar1 : secretT [] = (aT.take 1, 1) := by decide
theorem ar2 : secretT (aT.take 1) = (aT.take 2, 2) := by decide
theorem ar3 : makeT (aT.take 2) 7 [2] = (aT.take 3, 3) := by decide
theorem ar4 : makeT (aT.take 3) 8 [1, 3] = (aT.take 4, 4) := by decide
theorem ar5 : textT (aT.take 4) (strOfNums []) = (aT.take 5, 5) := by decide
theorem ar6 : makeT (aT.take 5) 10 [4, 5, 2] = (aT, 6) := by decide
theorem can_lit {B tb g t : Nat} {T : List Nd} (xs : List Int) (h : Int) (hh : h ≤ 9223372036854775807) (w : World) (ht : IsTab B w tb T) (hB : B ≤ w.heap.size) (hg : w.heap.size = g) (hn : xs.length ≤ 1000000) (cs : Array Value) (hc : cs = (xs.map (Value.int .i64)).toArray) (hs : spT t = false) (n : Nat) (hl : xs.length = n) :
    Calls Try.prog 24 #[.pointer (some ⟨tb, 0, none⟩), .slice (some ⟨g, 0, none⟩) n n, .int .i64 h] (w.alloc (.cells cs t)) fun e w' => e = .returned (.bool (knB T (inT T xs) false h)) ∧ Below w.heap.size w w' ∧ IsTab B w' tb T := by
  subst hg hc hl
  refine (kcan_any xs _ _ h hh _ (.inr ⟨tb, rfl, ht.below (below_new _)⟩) (by simp; omega) ((OwnI.fresh (B := 0) (Nat.zero_le _) hs (by omega)).rds (B' := 0)) hn).mono fun e w' p => ?_
  have hb := (below_new (w := w) (.cells (xs.map (Value.int .i64)).toArray t)).trans (p.2.mono (by simp))
  exact ⟨p.1, hb, ht.below hb⟩
set_option maxHeartbeats 3200000 in
set_option maxRecDepth 100000 in
theorem awake03_any (w : World) : Calls Try.prog 18 #[] w (AwakePost w) := by
  go_enter Try.func18, Try.ntmps18
  go_wp2_with fail
  refine (new_any w).mono ?_
  rintro e w1 ⟨tb, rfl, ht1, hb1⟩
  have HT1 := Lib.hid ht1
  have HF1 := Lib.hid (Frm.of_below (C := tabO) (B := w.heap.size) hb1)
  clear ht1 hb1
  go_wp2_with fail
  refine (secret_any w1 HT1.out).mono ?_
  rintro e w2 p2
  obtain ⟨rfl, ht2, hf2⟩ := p2.intro ar1
  have HT2 := Lib.hid ht2
  have HF2 := Lib.hid (HF1.out.trans hf2)
  clear p2 ht2 hf2 HF1 HT1
  go_wp2_with fail
  refine (secret_any w2 HT2.out).mono ?_
  rintro e w3 p3
  obtain ⟨rfl, ht3, hf3⟩ := p3.intro ar2
  have HT3 := Lib.hid ht3
  have HF3 := Lib.hid (HF2.out.trans hf3)
  clear p3 ht3 hf3 HF2 HT2
  go_wp2_with fail
  refine (make_lit 7 [2] w3 HT3.out rfl (by simp [I64]) (by decide) _ rfl ?_ 1 rfl).mono ?_
  · decide
  rintro e w4 p4
  obtain ⟨rfl, ht4, hf4⟩ := p4.intro ar3
  have HT4 := Lib.hid ht4
  have HF4 := Lib.hid (HF3.out.trans hf4)
  clear p4 ht4 hf4 HF3 HT3
  go_wp2_with fail
  refine (make_lit 8 [1, 3] w4 HT4.out rfl (by simp [I64]) (by decide) _ rfl ?_ 2 rfl).mono ?_
  · decide
  rintro e w5 p5
  obtain ⟨rfl, ht5, hf5⟩ := p5.intro ar4
  have HT5 := Lib.hid ht5
  have HF5 := Lib.hid (HF4.out.trans hf5)
  clear p5 ht5 hf5 HF4 HT4
  go_wp2_with fail
  refine (text_any none 0 0 [] w5 HT5.out (Rds.nil 0 _ _)).mono ?_
  rintro e w6 p6
  obtain ⟨rfl, ht6, hf6⟩ := p6.intro ar5
  have HT6 := Lib.hid ht6
  have HF6 := Lib.hid (HF5.out.trans hf6)
  clear p6 ht6 hf6 HF5 HT5
  go_wp2_with fail
  refine (make_lit 10 [4, 5, 2] w6 HT6.out rfl (by simp [I64]) (by decide) _ rfl ?_ 3 rfl).mono ?_
  · decide
  rintro e w7 p7
  obtain ⟨rfl, ht7, hf7⟩ := p7.intro ar6
  have HT7 := Lib.hid ht7
  have HWF := Lib.hid ht7.1
  have HF7 := Lib.hid ((HF6.out.trans hf7).below (Nat.le_refl _))
  have HB7 : Hid (w.heap.size ≤ w7.heap.size) := HF7.out.size
  clear p7 ht7 hf7 HF6 HT6
  go_wp2_with fail
  refine (can_lit [1, 3] 4 (by decide) w7 HT7.out HB7.out rfl (by decide) _ rfl ?_ 2 rfl).mono ?_
  · decide
  rintro e w8 ⟨rfl, hb8, ht8⟩
  rw [runK_can HWF.out [1, 3] 4 4 true (by decide) aT_runs]
  have HT8 := Lib.hid ht8
  have HF8 := Lib.hid (HF7.out.trans (hb8.mono HB7.out))
  have HB8 : Hid (w.heap.size ≤ w8.heap.size) := HF8.out.size
  clear hb8 ht8
  go_wp2_with fail
  refine (can_lit [3] 4 (by decide) w8 HT8.out HB8.out rfl (by decide) _ rfl ?_ 1 rfl).mono ?_
  · decide
  rintro e w9 ⟨rfl, hb9, ht9⟩
  rw [runK_can HWF.out [3] 4 4 false (by decide) aT_runs2]
  have HT9 := Lib.hid ht9
  have HF9 := Lib.hid (HF8.out.trans (hb9.mono HB8.out))
  have HB9 : Hid (w.heap.size ≤ w9.heap.size) := HF9.out.size
  clear hb9 ht9
  go_wp2_with fail
  refine (can_lit [6] 2 (by decide) w9 HT9.out HB9.out rfl (by decide) _ rfl ?_ 1 rfl).mono ?_
  · decide
  rintro e wa ⟨rfl, hba, hta⟩
  rw [runK_can HWF.out [6] 4 2 false (by decide) aT_runs3]
  have HTa := Lib.hid hta
  have HFa := Lib.hid (HF9.out.trans (hba.mono HB9.out))
  have HBa : Hid (w.heap.size ≤ wa.heap.size) := HFa.out.size
  clear hba hta
  go_wp2_with fail
  refine (can_lit [1, 3, 6] 2 (by decide) wa HTa.out HBa.out rfl (by decide) _ rfl ?_ 3 rfl).mono ?_
  · decide
  rintro e wb ⟨rfl, hbb, htb⟩
  rw [runK_can HWF.out [1, 3, 6] 4 2 true (by decide) aT_runs4]
  have HFb := Lib.hid (HFa.out.trans (hbb.mono HBa.out))
  clear hbb htb
  go_wp2_with fail
  go_ret
  exact ⟨rfl, HFb.out⟩
set_option maxHeartbeats 1600000 in
set_option maxRecDepth 100000 in
theorem terms3_any {B' : Nat} (A : Option Addr) (n c : Nat) (xs : List Int) (w : World) (hr : Rds B' w .i64 A n c xs) (hn : n ≤ 1000000) :
    Calls Try.prog 22 #[.slice A n c] w fun e w' => ∃ A' c', e = .returned (.slice A' n c') ∧ OwnI w' w.heap.size .i64 (.slice A' n c') xs ∧ Below w.heap.size w w' := by
  have hl := Lib.hid hr.len
  have HR := Lib.hid hr; clear hr
  go_enter Try.func22, Try.ntmps22
  go_wp2_with fail
  go_loopw [3, 4] (fun v i wr => ∃ k : Nat, k ≤ n ∧ i = .int .i64 k ∧ OwnI wr w.heap.size .i64 v (xs.take k) ∧ Below w.heap.size w wr) (fun _ i _ => n - (intOf i).toNat)
  case atStart => exact ⟨0, Nat.zero_le _, rfl, OwnI.nil _ _ _, Below.refl _ _⟩
  case round =>
    obtain ⟨k, hk, rfl, hown, hb⟩ := hrel
    have HO := Lib.hid hown
    have HB := Lib.hid hb
    clear hown hb
    by_cases hlt : k < n
    · have hR := HR.out.below HB.out
      obtain ⟨b, o, rfl, hcx⟩ := RdI.at_ hR.cell (by have := hl.out; omega)
      have g1 := hcx k (by have := hl.out; omega)
      clear hcx hR
      go_wp2_with (at_builtin; refine wp_app_term (ys := [nth xs k]) rfl _ _ rfl rfl rfl (HO.out.below (below_new _)) (RdI.one_at _ .i64 _ _ rfl) rfl ?_ ?_ ?_)
      · have := HB.out.size; simp; omega
      · have := hl.out; simp; omega
      intro v' w3 hv3 hg3 hb3
      have HV := Lib.hid hv3
      have HB3 := Lib.hid ((HB.out.alloc HB.out.size _).trans hb3)
      clear hv3 hg3 hb3
      go_wp2_with fail
      go_roundw
      case rel => exact ⟨k + 1, by omega, by go_num, by have := HV.out; rw [take_nth_succ (by have := hl.out; omega)]; exact this, HB3.out⟩
      case measure => simp [intOf]; omega
    · go_wp2_with fail
      go_ret
      have := HO.out
      rw [List.take_of_length_le (by have := hl.out; omega)] at this
      obtain ⟨A', c', hv⟩ := this.slice
      rw [hl.out] at hv
      exact ⟨A', c', by rw [hv]; rfl, by rw [← hv]; exact this, HB.out⟩

end Go.Proofs.Ytmaedahleenlgaa
