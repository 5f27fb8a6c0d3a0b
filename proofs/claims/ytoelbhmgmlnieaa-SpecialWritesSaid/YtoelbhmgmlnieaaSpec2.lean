/- What WriteList, body, WriteRetry of layer 8 do. No condition. -/
import Derived.Test.YtoelbhmgmlnieaaSpec
set_option linter.unusedVariables false
set_option linter.unusedSimpArgs false
namespace Go.Proofs.Ytoelbhmgmlnieaa
open Go Go.RowKit

theorem headV_no {first v : Int} {ts fr : List Int} (h : ¬ NamesOk ts fr) : headV first v ts fr = [] := if_neg h
theorem headV_yes {first v : Int} {ts fr : List Int} (h : NamesOk ts fr) : headV first v ts fr = headB first v ts fr := if_pos h
theorem listB_no {ts fr vs : List Int} (h : ¬ ListOk ts fr vs) : listB ts fr vs = [] := if_neg h
theorem listB_yes {ts fr vs : List Int} (h : ListOk ts fr vs) : listB ts fr vs = headB 128 0 ts fr ++ bigs vs := if_pos h
theorem bigs_take {vs : List Int} {k : Nat} (h : k < vs.length) : bigs (vs.take (k + 1)) = bigs (vs.take k) ++ bigB (nth vs k) := by rw [take_nth_succ h, bigs_snoc]
set_option maxHeartbeats 3200000 in
set_option maxRecDepth 100000 in
theorem writeList_any {B1 B2 B3 : Nat} (A1 A2 A3 : Option Addr) (n1 n2 n3 c1 c2 c3 : Nat) (ts fr vs : List Int) (w : World) (h1 : Rds B1 w .u8 A1 n1 c1 ts) (h2 : Rds B2 w .u8 A2 n2 c2 fr) (h3 : Rds B3 w .i64 A3 n3 c3 vs) :
    Calls Try.prog 26 #[.agg #[.slice A1 n1 c1, .slice A2 n2 c2, .slice A3 n3 c3]] w (BytesPost (listB ts fr vs) w) := by
  have H1 := Lib.hid h1
  have H2 := Lib.hid h2
  have H3 := Lib.hid h3
  have L3 := Lib.hid h3.len
  clear h1 h2 h3
  obtain ⟨W, hW⟩ : ∃ W, W = w.alloc (.cells #[.slice A1 n1 c1, .slice A2 n2 c2, .slice A3 n3 c3] 46) := ⟨_, rfl⟩
  have HBW : Hid (Below w.heap.size w W) := by rw [hW]; exact below_new _
  have hsW : W.heap.size = w.heap.size + 1 := by rw [hW]; simp
  have x2 : W.cell? ⟨w.heap.size, 2, none⟩ = some (.slice A3 n3 c3) := by rw [hW]; simp [go_sem]
  go_enter Try.func26, Try.ntmps26
  go_wp2_with fail
  rw [← hW]
  clear hW
  refine (head_any 128 0 A1 A2 n1 n2 c1 c2 ts fr W (H1.out.below HBW.out) (H2.out.below HBW.out)).mono ?_
  rintro e w3 ⟨v3, rfl, hv3, hb3⟩
  have x3 := later_cell hb3 x2 (by simp; omega)
  obtain ⟨A, c, rfl⟩ := hv3.slice
  have HB3 := Lib.hid (below_next HBW.out (by omega) hb3)
  by_cases k1 : NamesOk ts fr
  rotate_left
  · have HE := Lib.hid (listB_no (vs := vs) (fun h => k1 h.1))
    rw [headV_no k1] at *
    simp only [List.length_nil] at *
    clear hv3 hb3 k1
    go_wp2_with fail
    go_ret
    rw [HE.out]
    exact BytesPost.nil HB3.out
  rw [headV_yes k1] at *
  have hpos : 0 < (headB 128 0 ts fr).length := by rw [headB_len]; omega
  have hlen : (headB 128 0 ts fr).length ≤ 47 := by rw [headB_len]; have := k1.1; have := k1.2; omega
  obtain ⟨M, hM⟩ : ∃ M, M = (headB 128 0 ts fr).length := ⟨_, rfl⟩
  have HV3 := Lib.hid hv3
  have HM := Lib.hid hM
  rw [← hM] at hpos hlen HV3 ⊢
  have hm0 : ((M : Int) == 0) = false := by simp; omega
  have HK := Lib.hid k1
  clear hv3 k1 hM
  by_cases k2 : n3 < 1
  · have HE := Lib.hid (listB_no (ts := ts) (fr := fr) (vs := vs) (fun h => by have := h.2.1; have := L3.out; omega))
    go_wp2_with fail
    go_ret
    rw [HE.out]
    exact BytesPost.nil HB3.out
  by_cases k3 : 16 < n3
  · have HE := Lib.hid (listB_no (ts := ts) (fr := fr) (vs := vs) (fun h => by have := h.2.2.1; have := L3.out; omega))
    go_wp2_with fail
    go_ret
    rw [HE.out]
    exact BytesPost.nil HB3.out
  have HB3' := Lib.hid hb3
  have HSW := Lib.hid hsW
  clear hb3 hsW
  go_wp2_with fail
  go_loopw [3, 29] (fun v i wr => ∃ k : Nat, k ≤ n3 ∧ i = .int .i64 k ∧ OwnI wr W.heap.size .u8 v (headB 128 0 ts fr ++ bigs (vs.take k)) ∧ Below W.heap.size W wr ∧ Hid (∀ j, j < k → VerOk (nth vs j))) (fun _ i _ => n3 - (intOf i).toNat)
  case atStart => exact ⟨0, Nat.zero_le _, rfl, by have := HV3.out; rw [HM.out] at this ⊢; simpa [bigs] using this, HB3'.out, fun j hj => by omega⟩
  case round =>
    obtain ⟨k, hk, rfl, hv, hb, hok⟩ := hrel
    have HV := Lib.hid hv
    have HB := Lib.hid hb
    clear hv hb
    by_cases hlt : k < n3
    · have HR := Lib.hid ((H3.out.below HBW.out).below HB.out)
      obtain ⟨b, o, rfl, hcx⟩ := RdI.at_ HR.out.cell (by have := L3.out; omega)
      have g1 := hcx k (by have := L3.out; omega)
      clear hcx
      have hk0 : (0 : Int) ≤ (k : Int) := by omega
      have hk1 : (k : Int) < (n3 : Int) := by omega
      go_wp2_with fail
      refine (version_any (nth vs k) wr).mono ?_
      rintro e w5 ⟨rfl, rfl⟩
      by_cases hz : VerOk (nth vs k)
      · have HZ := Lib.hid hz
        rw [decide_eq_true hz]
        clear hz
        go_wp2_with fail
        refine (big_any (nth vs k) wr).mono ?_
        rintro e w6 ⟨v6, rfl, hv6, hb6⟩
        obtain ⟨A6, c6, rfl⟩ := hv6.slice
        have R6 := Lib.hid (hv6.rds (B' := 0)).cell
        have HV6 := Lib.hid (HV.out.below hb6)
        have HB6 := Lib.hid (below_next HB.out HB.out.size hb6)
        have hle : (headB 128 0 ts fr ++ bigs (vs.take k)).length ≤ 1000 := by have := HM.out; simp [bigs_len]; omega
        rw [bigB_len] at *
        clear hv6 hb6
        go_wp2_with (at_builtin; refine wp_app_u8 rfl _ _ rfl rfl rfl HV6.out R6.out (bigB_len _) HB6.out.size (by omega) ?_)
        intro v' w7 hv7 hg7 hb7
        have HV7 : Hid (OwnI w7 W.heap.size .u8 v' (headB 128 0 ts fr ++ bigs (vs.take (k + 1)))) := by
          rw [bigs_take (by have := L3.out; omega)]
          exact hv7
        have HB7 := Lib.hid (HB6.out.trans hb7)
        clear hv7 hg7 hb7 hle
        go_wp2_with fail
        go_roundw
        case rel => exact ⟨k + 1, by omega, by go_num, HV7.out, HB7.out, fun j hj => by
          rcases Nat.lt_or_ge j k with h | h
          · exact hok.out j h
          · obtain rfl : j = k := by omega
            exact HZ.out⟩
        case measure => simp [intOf]; omega
      · have HE := Lib.hid (listB_no (ts := ts) (fr := fr) (vs := vs) (fun h => hz (h.2.2.2 _ (nth_mem (by have := L3.out; omega)))))
        rw [decide_eq_false hz]
        clear hz
        go_wp2_with fail
        go_ret
        rw [HE.out]
        exact BytesPost.nil (HBW.out.trans (HB.out.mono (by have := HSW.out; omega)))
    · obtain rfl : k = n3 := by omega
      have HE : Hid (headB 128 0 ts fr ++ bigs (vs.take k) = listB ts fr vs) := by
        show _ = _
        rw [List.take_of_length_le (by have := L3.out; omega), listB_yes]
        refine ⟨HK.out, by have := L3.out; omega, by have := L3.out; omega, fun v hv => ?_⟩
        obtain ⟨j, hj, rfl⟩ := List.mem_iff_getElem.1 hv
        have := hok.out j (by have := L3.out; omega)
        have e := nth_lt hj
        rw [List.getElem?_eq_getElem hj] at e
        rw [Option.some.inj e]
        exact this
      go_wp2_with fail
      go_ret
      rw [← HE.out]
      exact ⟨_, rfl, HV.out.mono (by have := HSW.out; omega), HBW.out.trans (HB.out.mono (by have := HSW.out; omega))⟩
end Go.Proofs.Ytoelbhmgmlnieaa
