/- Own texts, one behind the other. Each bears its own remark. -/
import Derived.Test.YtomopjpfdmpgpaaSpec
/- What WriteList, body, WriteRetry of layer 8 do. No condition. -/
set_option linter.unusedVariables false
set_option linter.unusedSimpArgs false
namespace Go.Proofs.Ytomopjpfdmpgpaa
open Go Go.RowKit

theorem headV_no {first v : Int} {ts fr : List Int} (h : ¬ NamesOk ts fr) : headV first v ts fr = [] := if_neg h
theorem headV_yes {first v : Int} {ts fr : List Int} (h : NamesOk ts fr) : headV first v ts fr = headB first v ts fr := if_pos h
theorem listB_no {ts fr vs : List Int} (h : ¬ ListOk ts fr vs) : listB ts fr vs = [] := if_neg h
theorem listB_yes {ts fr vs : List Int} (h : ListOk ts fr vs) : listB ts fr vs = headB 128 0 ts fr ++ bigs vs := if_pos h
theorem bigs_take {vs : List Int} {k : Nat} (h : k < vs.length) : bigs (vs.take (k + 1)) = bigs (vs.take k) ++ bigB (nth vs k) := by rw [take_nth_succ h, bigs_snoc]
set_option maxHeartbeats 3200000 in
set_option maxRecDepth 100000 in
theorem writeList_any {B1 B2 B3 : Nat} (A1 A2 A3 : Option Addr) (n1 n2 n3 c1 c2 c3 : Nat) (ts fr vs : List Int) (w : World) (h1 : Rds B1 w .u8 A1 n1 c1 ts) (h2 : Rds B2 w .u8 A2 n2 c2 fr) (h3 : Rds B3 w .i64 A3 n3 c3 vs) :
    Calls Try.prog 13 #[.agg #[.slice A1 n1 c1, .slice A2 n2 c2, .slice A3 n3 c3]] w (BytesPost (listB ts fr vs) w) := by
  have H1 := Lib.hid h1
  have H2 := Lib.hid h2
  have H3 := Lib.hid h3
  have L3 := Lib.hid h3.len
  clear h1 h2 h3
  obtain ⟨W, hW⟩ : ∃ W, W = w.alloc (.cells #[.slice A1 n1 c1, .slice A2 n2 c2, .slice A3 n3 c3] 25) := ⟨_, rfl⟩
  have HBW : Hid (Below w.heap.size w W) := by rw [hW]; exact below_new _
  have hsW : W.heap.size = w.heap.size + 1 := by rw [hW]; simp
  have x2 : W.cell? ⟨w.heap.size, 2, none⟩ = some (.slice A3 n3 c3) := by rw [hW]; simp [go_sem]
  go_enter Try.func13, Try.ntmps13
  go_wp2_with fail
  rw [← hW]
  clear hW
  refine (head_any 128 0 A1 A2 n1 n2 c1 c2 ts fr W (H1.out.below HBW.out) (H2.out.below HBW.out)).mono ?_
  rintro e w3 ⟨v3, rfl, hv3, hb3⟩
  have x3 := later_cell hb3 x2 (by simp; omega)
  obtain ⟨A, c, rfl⟩ := hv3.slice
  have HB3 := Lib.hid (below_next HBW.out (by omega) hb3)
  by_cases k1 : NamesOk ts fr
  rotate_left
  · have HE := Lib.hid (listB_no (vs := vs) (fun h => k1 h.1))
    rw [headV_no k1] at *
    simp only [List.length_nil] at *
    clear hv3 hb3 k1
    go_wp2_with fail
    go_ret
    rw [HE.out]
    exact BytesPost.nil HB3.out
  rw [headV_yes k1] at *
  have hpos : 0 < (headB 128 0 ts fr).length := by rw [headB_len]; omega
  have hlen : (headB 128 0 ts fr).length ≤ 47 := by rw [headB_len]; have := k1.1; have := k1.2; omega
  obtain ⟨M, hM⟩ : ∃ M, M = (headB 128 0 ts fr).length := ⟨_, rfl⟩
  have HV3 := Lib.hid hv3
  have HM := Lib.hid hM
  rw [← hM] at hpos hlen HV3 ⊢
  have hm0 : ((M : Int) == 0) = false := by simp; omega
  have HK := Lib.hid k1
  clear hv3 k1 hM
  by_cases k2 : n3 < 1
  · have HE := Lib.hid (listB_no (ts := ts) (fr := fr) (vs := vs) (fun h => by have := h.2.1; have := L3.out; omega))
    go_wp2_with fail
    go_ret
    rw [HE.out]
    exact BytesPost.nil HB3.out
  by_cases k3 : 16 < n3
  · have HE := Lib.hid (listB_no (ts := ts) (fr := fr) (vs := vs) (fun h => by have := h.2.2.1; have := L3.out; omega))
    go_wp2_with fail
    go_ret
    rw [HE.out]
    exact BytesPost.nil HB3.out
  have HB3' := Lib.hid hb3
  have HSW := Lib.hid hsW
  clear hb3 hsW
  go_wp2_with fail
  go_loopw [3, 29] (fun v i wr => ∃ k : Nat, k ≤ n3 ∧ i = .int .i64 k ∧ OwnI wr W.heap.size .u8 v (headB 128 0 ts fr ++ bigs (vs.take k)) ∧ Below W.heap.size W wr ∧ Hid (∀ j, j < k → VerOk (nth vs j))) (fun _ i _ => n3 - (intOf i).toNat)
  case atStart => exact ⟨0, Nat.zero_le _, rfl, by have := HV3.out; rw [HM.out] at this ⊢; simpa [bigs] using this, HB3'.out, fun j hj => by omega⟩
  case round =>
    obtain ⟨k, hk, rfl, hv, hb, hok⟩ := hrel
    have HV := Lib.hid hv
    have HB := Lib.hid hb
    clear hv hb
    by_cases hlt : k < n3
    · have HR := Lib.hid ((H3.out.below HBW.out).below HB.out)
      obtain ⟨b, o, rfl, hcx⟩ := RdI.at_ HR.out.cell (by have := L3.out; omega)
      have g1 := hcx k (by have := L3.out; omega)
      clear hcx
      have hk0 : (0 : Int) ≤ (k : Int) := by omega
      have hk1 : (k : Int) < (n3 : Int) := by omega
      go_wp2_with fail
      refine (version_any (nth vs k) wr).mono ?_
      rintro e w5 ⟨rfl, rfl⟩
      by_cases hz : VerOk (nth vs k)
      · have HZ := Lib.hid hz
        rw [decide_eq_true hz]
        clear hz
        go_wp2_with fail
        refine (big_any (nth vs k) wr).mono ?_
        rintro e w6 ⟨v6, rfl, hv6, hb6⟩
        obtain ⟨A6, c6, rfl⟩ := hv6.slice
        have R6 := Lib.hid (hv6.rds (B' := 0)).cell
        have HV6 := Lib.hid (HV.out.below hb6)
        have HB6 := Lib.hid (below_next HB.out HB.out.size hb6)
        have hle : (headB 128 0 ts fr ++ bigs (vs.take k)).length ≤ 1000 := by have := HM.out; simp [bigs_len]; omega
        rw [bigB_len] at *
        clear hv6 hb6
        go_wp2_with (at_builtin; refine wp_app_u8 rfl _ _ rfl rfl rfl HV6.out R6.out (bigB_len _) HB6.out.size (by omega) ?_)
        intro v' w7 hv7 hg7 hb7
        have HV7 : Hid (OwnI w7 W.heap.size .u8 v' (headB 128 0 ts fr ++ bigs (vs.take (k + 1)))) := by
          rw [bigs_take (by have := L3.out; omega)]
          exact hv7
        have HB7 := Lib.hid (HB6.out.trans hb7)
        clear hv7 hg7 hb7 hle
        go_wp2_with fail
        go_roundw
        case rel => exact ⟨k + 1, by omega, by go_num, HV7.out, HB7.out, fun j hj => by
          rcases Nat.lt_or_ge j k with h | h
          · exact hok.out j h
          · obtain rfl : j = k := by omega
            exact HZ.out⟩
        case measure => simp [intOf]; omega
      · have HE := Lib.hid (listB_no (ts := ts) (fr := fr) (vs := vs) (fun h => hz (h.2.2.2 _ (nth_mem (by have := L3.out; omega)))))
        rw [decide_eq_false hz]
        clear hz
        go_wp2_with fail
        go_ret
        rw [HE.out]
        exact BytesPost.nil (HBW.out.trans (HB.out.mono (by have := HSW.out; omega)))
    · obtain rfl : k = n3 := by omega
      have HE : Hid (headB 128 0 ts fr ++ bigs (vs.take k) = listB ts fr vs) := by
        show _ = _
        rw [List.take_of_length_le (by have := L3.out; omega), listB_yes]
        refine ⟨HK.out, by have := L3.out; omega, by have := L3.out; omega, fun v hv => ?_⟩
        obtain ⟨j, hj, rfl⟩ := List.mem_iff_getElem.1 hv
        have := hok.out j (by have := L3.out; omega)
        have e := nth_lt hj
        rw [List.getElem?_eq_getElem hj] at e
        rw [Option.some.inj e]
        exact this
      go_wp2_with fail
      go_ret
      rw [← HE.out]
      exact ⟨_, rfl, HV.out.mono (by have := HSW.out; omega), HBW.out.trans (HB.out.mono (by have := HSW.out; omega))⟩
end Go.Proofs.Ytomopjpfdmpgpaa

/- What body and WriteRetry of layer 8 do. No condition. -/
set_option linter.unusedVariables false
set_option linter.unusedSimpArgs false
namespace Go.Proofs.Ytomopjpfdmpgpaa
open Go Go.RowKit

theorem beq_zero {n : Nat} (h : 0 < n) : ((n : Int) == 0) = false := by simp; omega
theorem bodyB_no {ver : Int} {ts fr : List Int} {token : Int} (h : ¬ BodyOk ver ts fr token) : bodyB ver ts fr token = [] := if_neg h
theorem bodyB_yes {ver : Int} {ts fr : List Int} {token : Int} (h : BodyOk ver ts fr token) : bodyB ver ts fr token = headB 240 ver ts fr ++ numB token := if_pos h
theorem bodyB_len {ver : Int} {ts fr : List Int} {token : Int} (h : BodyOk ver ts fr token) : (bodyB ver ts fr token).length = 11 + ts.length + fr.length := by
  rw [bodyB_yes h, List.length_append, headB_len, numB_yes h.2.2.1 h.2.2.2]
  simp; omega
theorem numB_four {h : Int} (h0 : 1 ≤ h) (h1 : h ≤ 65536) : (numB h).length = 4 := by rw [numB_yes h0 h1]; rfl
set_option maxHeartbeats 3200000 in
set_option maxRecDepth 100000 in
theorem body_any {B1 B2 : Nat} (ver token tag : Int) (A1 A2 : Option Addr) (n1 n2 c1 c2 : Nat) (ts fr : List Int) (w : World) (h1 : Rds B1 w .u8 A1 n1 c1 ts) (h2 : Rds B2 w .u8 A2 n2 c2 fr) :
    Calls Try.prog 43 #[.agg #[.int .i64 ver, .slice A1 n1 c1, .slice A2 n2 c2, .int .i64 token, .int .i64 tag]] w (BytesPost (bodyB ver ts fr token) w) := by
  have H1 := Lib.hid h1
  have H2 := Lib.hid h2
  clear h1 h2
  obtain ⟨W, hW⟩ : ∃ W, W = w.alloc (.cells #[.int .i64 ver, .slice A1 n1 c1, .slice A2 n2 c2, .int .i64 token, .int .i64 tag] 34) := ⟨_, rfl⟩
  have HBW : Hid (Below w.heap.size w W) := by rw [hW]; exact below_new _
  have hsW : W.heap.size = w.heap.size + 1 := by rw [hW]; simp
  have x0 : W.cell? ⟨w.heap.size, 0, none⟩ = some (.int .i64 ver) := by rw [hW]; simp [go_sem]
  have x1 : W.cell? ⟨w.heap.size, 1, none⟩ = some (.slice A1 n1 c1) := by rw [hW]; simp [go_sem]
  have x2 : W.cell? ⟨w.heap.size, 2, none⟩ = some (.slice A2 n2 c2) := by rw [hW]; simp [go_sem]
  have x3 : W.cell? ⟨w.heap.size, 3, none⟩ = some (.int .i64 token) := by rw [hW]; simp [go_sem]
  have HSW := Lib.hid hsW
  clear hsW
  go_enter Try.func43, Try.ntmps43
  go_wp2_with fail
  rw [← hW]
  clear hW
  go_region_held3 (fun w' => w'.cell? ⟨w.heap.size, 0, none⟩ = some (.int .i64 ver) ∧ w'.cell? ⟨w.heap.size, 1, none⟩ = some (.slice A1 n1 c1) ∧ w'.cell? ⟨w.heap.size, 2, none⟩ = some (.slice A2 n2 c2) ∧ w'.cell? ⟨w.heap.size, 3, none⟩ = some (.int .i64 token))
    (first | exact ⟨y0, y1, y2, y3⟩ | exact ⟨z0, z1, z2, z3⟩ | go_keep) ((first
    | (go_at_call 41
       refine (head_any 240 ver A1 A2 n1 n2 c1 c2 ts fr W.drew ((H1.out.below HBW.out).below ((Below.refl _ _).drew)) ((H2.out.below HBW.out).below ((Below.refl _ _).drew))).mono ?_
       rintro e w3 ⟨v3, rfl, hv3, hb3⟩
       have y0 := later_cell hb3 x0 (by simp; have := HSW.out; omega)
       have y1 := later_cell hb3 x1 (by simp; have := HSW.out; omega)
       have y2 := later_cell hb3 x2 (by simp; have := HSW.out; omega)
       have y3 := later_cell hb3 x3 (by simp; have := HSW.out; omega)
       have HB3 : Hid (Below W.heap.size W w3) := (Below.drew (Below.refl W.heap.size W)).trans hb3
       have HV3 : Hid (OwnI w3 W.heap.size .u8 v3 (headV 240 ver ts fr)) := hv3
       clear hv3 hb3)
    | (go_at_call 44
       refine (number_any token w3).mono ?_
       rintro e w4 ⟨v4, rfl, hv4, hb4⟩
       have hs34 := HB3.out.size
       have z0 := later_cell hb4 y0 (by simp; have := HSW.out; omega)
       have z1 := later_cell hb4 y1 (by simp; have := HSW.out; omega)
       have z2 := later_cell hb4 y2 (by simp; have := HSW.out; omega)
       have z3 := later_cell hb4 y3 (by simp; have := HSW.out; omega)
       have HB4 := Lib.hid (below_next HB3.out HB3.out.size hb4)
       have HV4 : Hid (OwnI w4 W.heap.size .u8 v4 (numB token)) := hv4.mono HB3.out.size
       have HV34 := Lib.hid (HV3.out.below hb4)
       clear hv4 hb4)))
  all_goals
    obtain ⟨A3, c3, rfl⟩ := HV34.out.slice
    obtain ⟨A4, c4, rfl⟩ := HV4.out.slice
    have HB04 := Lib.hid (HBW.out.trans (HB4.out.mono (by have := HSW.out; omega)))
    clear x0 x1 x2 x3 y0 y1 y2 y3 z1 z2 z3 hs34
    by_cases k1 : NamesOk ts fr
    rotate_left
    · have HE := Lib.hid (bodyB_no (ver := ver) (token := token) (fun h => k1 h.1))
      rw [headV_no k1] at *
      simp only [List.length_nil] at *
      clear k1
      go_wp2_with fail
      go_ret
      rw [HE.out]
      exact BytesPost.nil HB04.out
    by_cases k2 : 1 ≤ token ∧ token ≤ 65536
    rotate_left
    · have HE := Lib.hid (bodyB_no (ver := ver) (ts := ts) (fr := fr) (token := token) (fun h => k2 h.2.2))
      rw [headV_yes k1] at *
      have hm : (((headB 240 ver ts fr).length : Int) == 0) = false := beq_zero (by have := headB_len 240 ver ts fr; omega)
      rw [numB_no k2] at *
      simp only [List.length_nil] at *
      clear k1 k2
      go_wp2_with fail
      go_ret
      rw [HE.out]
      exact BytesPost.nil HB04.out
    by_cases k3 : VerOk ver
    rotate_left
    · have HE := Lib.hid (bodyB_no (ts := ts) (fr := fr) (token := token) (fun h => k3 h.2.1))
      rw [headV_yes k1] at *
      have hm : (((headB 240 ver ts fr).length : Int) == 0) = false := beq_zero (by have := headB_len 240 ver ts fr; omega)
      have HV5 := HV4
      rw [numB_four k2.1 k2.2] at *
      clear k1 k2
      have hv5 := version_any ver w4
      rw [decide_eq_false k3] at hv5
      clear k3
      go_wp2_with fail
      refine hv5.mono ?_
      rintro e w5 ⟨rfl, rfl⟩
      go_wp2_with fail
      go_ret
      rw [HE.out]
      exact BytesPost.nil HB04.out
    have HE := Lib.hid (bodyB_yes (ver := ver) (ts := ts) (fr := fr) (token := token) ⟨k1, k3, k2⟩)
    rw [headV_yes k1] at *
    have hlen : (headB 240 ver ts fr).length ≤ 47 := by rw [headB_len]; have := k1.1; have := k1.2; omega
    have hm : (((headB 240 ver ts fr).length : Int) == 0) = false := beq_zero (by have := headB_len 240 ver ts fr; omega)
    have R4 := Lib.hid (HV4.out.rds (B' := 0)).cell
    have N4 := Lib.hid (numB_four k2.1 k2.2)
    rw [N4.out]
    have hv5 := version_any ver w4
    rw [decide_eq_true k3] at hv5
    obtain ⟨M, hM⟩ : ∃ M, M = (headB 240 ver ts fr).length := ⟨_, rfl⟩
    have HV34' := HV34
    have hs4 := HB04.out.size
    have HS4 := Lib.hid (show W.heap.size ≤ w4.heap.size from HB4.out.size)
    rw [← hM] at hlen hm HV34 ⊢
    have HM := Lib.hid hM
    clear k1 k2 k3 hM HV34' HV3 HV4
    go_wp2_with fail
    refine hv5.mono ?_
    rintro e w5 ⟨rfl, rfl⟩
    go_wp2_with (at_builtin; refine wp_app_u8 rfl _ _ rfl rfl rfl HV34.out R4.out N4.out HS4.out (by have := HM.out; omega) ?_)
    intro v' w7 hv7 hg7 hb7
    have HV7 := Lib.hid hv7
    have HB7 := Lib.hid hb7
    clear hv7 hg7 hb7
    go_wp2_with fail
    go_ret
    rw [HE.out]
    exact ⟨_, rfl, HV7.out.mono (by have := HSW.out; omega), HB04.out.trans (HB7.out.mono (by have := HSW.out; omega))⟩

theorem retryB_no {ver : Int} {ts fr : List Int} {token tag : Int} (h : ¬ (BodyOk ver ts fr token ∧ 1 ≤ tag ∧ tag ≤ 65536)) : retryB ver ts fr token tag = [] := if_neg h
theorem retryB_yes {ver : Int} {ts fr : List Int} {token tag : Int} (h : BodyOk ver ts fr token ∧ 1 ≤ tag ∧ tag ≤ 65536) : retryB ver ts fr token tag = bodyB ver ts fr token ++ numB tag := if_pos h
set_option maxHeartbeats 3200000 in
set_option maxRecDepth 100000 in
theorem writeRetry_any {B1 B2 : Nat} (ver token tag : Int) (A1 A2 : Option Addr) (n1 n2 c1 c2 : Nat) (ts fr : List Int) (w : World) (h1 : Rds B1 w .u8 A1 n1 c1 ts) (h2 : Rds B2 w .u8 A2 n2 c2 fr) :
    Calls Try.prog 15 #[.agg #[.int .i64 ver, .slice A1 n1 c1, .slice A2 n2 c2, .int .i64 token, .int .i64 tag]] w (BytesPost (retryB ver ts fr token tag) w) := by
  have H1 := Lib.hid h1
  have H2 := Lib.hid h2
  clear h1 h2
  obtain ⟨W, hW⟩ : ∃ W, W = w.alloc (.cells #[.int .i64 ver, .slice A1 n1 c1, .slice A2 n2 c2, .int .i64 token, .int .i64 tag] 34) := ⟨_, rfl⟩
  have HBW : Hid (Below w.heap.size w W) := by rw [hW]; exact below_new _
  have hsW : W.heap.size = w.heap.size + 1 := by rw [hW]; simp
  have x0 : W.cell? ⟨w.heap.size, 0, none⟩ = some (.int .i64 ver) := by rw [hW]; simp [go_sem]
  have x1 : W.cell? ⟨w.heap.size, 1, none⟩ = some (.slice A1 n1 c1) := by rw [hW]; simp [go_sem]
  have x2 : W.cell? ⟨w.heap.size, 2, none⟩ = some (.slice A2 n2 c2) := by rw [hW]; simp [go_sem]
  have x3 : W.cell? ⟨w.heap.size, 3, none⟩ = some (.int .i64 token) := by rw [hW]; simp [go_sem]
  have x4 : W.cell? ⟨w.heap.size, 4, none⟩ = some (.int .i64 tag) := by rw [hW]; simp [go_sem]
  have HSW := Lib.hid hsW
  clear hsW
  go_enter Try.func15, Try.ntmps15
  go_wp2_with fail
  rw [← hW]
  clear hW
  go_region_held3 (fun w' => w'.cell? ⟨w.heap.size, 0, none⟩ = some (.int .i64 ver) ∧ w'.cell? ⟨w.heap.size, 1, none⟩ = some (.slice A1 n1 c1) ∧ w'.cell? ⟨w.heap.size, 2, none⟩ = some (.slice A2 n2 c2) ∧ w'.cell? ⟨w.heap.size, 3, none⟩ = some (.int .i64 token) ∧ w'.cell? ⟨w.heap.size, 4, none⟩ = some (.int .i64 tag))
    (first | exact ⟨y0, y1, y2, y3, y4⟩ | exact ⟨z0, z1, z2, z3, z4⟩ | go_keep) ((first
    | (go_at_call 43
       refine (body_any ver token tag A1 A2 n1 n2 c1 c2 ts fr W.drew ((H1.out.below HBW.out).below ((Below.refl _ _).drew)) ((H2.out.below HBW.out).below ((Below.refl _ _).drew))).mono ?_
       rintro e w3 ⟨v3, rfl, hv3, hb3⟩
       have y0 := later_cell hb3 x0 (by simp; have := HSW.out; omega)
       have y1 := later_cell hb3 x1 (by simp; have := HSW.out; omega)
       have y2 := later_cell hb3 x2 (by simp; have := HSW.out; omega)
       have y3 := later_cell hb3 x3 (by simp; have := HSW.out; omega)
       have y4 := later_cell hb3 x4 (by simp; have := HSW.out; omega)
       have HB3 : Hid (Below W.heap.size W w3) := (Below.drew (Below.refl W.heap.size W)).trans hb3
       have HV3 : Hid (OwnI w3 W.heap.size .u8 v3 (bodyB ver ts fr token)) := hv3
       clear hv3 hb3)
    | (go_at_call 44
       refine (number_any tag w3).mono ?_
       rintro e w4 ⟨v4, rfl, hv4, hb4⟩
       have hs34 := HB3.out.size
       have z0 := later_cell hb4 y0 (by simp; have := HSW.out; omega)
       have z1 := later_cell hb4 y1 (by simp; have := HSW.out; omega)
       have z2 := later_cell hb4 y2 (by simp; have := HSW.out; omega)
       have z3 := later_cell hb4 y3 (by simp; have := HSW.out; omega)
       have z4 := later_cell hb4 y4 (by simp; have := HSW.out; omega)
       have HB4 := Lib.hid (below_next HB3.out HB3.out.size hb4)
       have HV4 : Hid (OwnI w4 W.heap.size .u8 v4 (numB tag)) := hv4.mono HB3.out.size
       have HV34 := Lib.hid (HV3.out.below hb4)
       clear hv4 hb4)))
  all_goals
    obtain ⟨A3, c3, rfl⟩ := HV34.out.slice
    obtain ⟨A4, c4, rfl⟩ := HV4.out.slice
    have HB04 := Lib.hid (HBW.out.trans (HB4.out.mono (by have := HSW.out; omega)))
    clear x0 x1 x2 x3 x4 y0 y1 y2 y3 y4 z0 z1 z2 z3 z4 hs34
    by_cases k1 : BodyOk ver ts fr token
    rotate_left
    · have HE := Lib.hid (retryB_no (tag := tag) (fun h => k1 h.1))
      rw [bodyB_no k1] at *
      simp only [List.length_nil] at *
      clear k1
      go_wp2_with fail
      go_ret
      rw [HE.out]
      exact BytesPost.nil HB04.out
    have hl := bodyB_len k1
    have hm : (((bodyB ver ts fr token).length : Int) == 0) = false := beq_zero (by omega)
    by_cases k2 : 1 ≤ tag ∧ tag ≤ 65536
    rotate_left
    · have HE := Lib.hid (retryB_no (ver := ver) (ts := ts) (fr := fr) (token := token) (fun h => k2 h.2))
      rw [numB_no k2] at *
      simp only [List.length_nil] at *
      clear k1 k2 hl
      go_wp2_with fail
      go_ret
      rw [HE.out]
      exact BytesPost.nil HB04.out
    have HE := Lib.hid (retryB_yes (ver := ver) (ts := ts) (fr := fr) (token := token) ⟨k1, k2⟩)
    have hlen : (bodyB ver ts fr token).length ≤ 51 := by rw [hl]; have := k1.1.1; have := k1.1.2; omega
    have R4 := Lib.hid (HV4.out.rds (B' := 0)).cell
    have N4 := Lib.hid (numB_four k2.1 k2.2)
    rw [N4.out]
    obtain ⟨M, hM⟩ : ∃ M, M = (bodyB ver ts fr token).length := ⟨_, rfl⟩
    have hs4 := HB04.out.size
    have HS4 := Lib.hid (show W.heap.size ≤ w4.heap.size from HB4.out.size)
    rw [← hM] at hlen hm HV34 ⊢
    have HM := Lib.hid hM
    clear k1 k2 hM HV3 HV4 hl
    go_wp2_with (at_builtin; refine wp_app_u8 rfl _ _ rfl rfl rfl HV34.out R4.out N4.out HS4.out (by have := HM.out; omega) ?_)
    intro v' w7 hv7 hg7 hb7
    have HV7 := Lib.hid hv7
    have HB7 := Lib.hid hb7
    clear hv7 hg7 hb7
    go_wp2_with fail
    go_ret
    rw [HE.out]
    exact ⟨_, rfl, HV7.out.mono (by have := HSW.out; omega), HB04.out.trans (HB7.out.mono (by have := HSW.out; omega))⟩
end Go.Proofs.Ytomopjpfdmpgpaa
