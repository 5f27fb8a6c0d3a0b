/- What the references' writers of layer 8 do. No condition. -/
import Derived.Test.YtoelbhmgmlnieaaSpecRef
import Derived.Test.YtoelbhmgmlnieaaSpec3
import Derived.Test.YtoelbhmgmlnieaaIdeal3
set_option linter.unusedVariables false
set_option linter.unusedSimpArgs false
namespace Go.Proofs.Ytoelbhmgmlnieaa
open Go Go.RowKit

set_option maxHeartbeats 1600000 in
set_option maxRecDepth 100000 in
theorem head08_any {B1 B2 : Nat} (first v : Int) (A1 A2 : Option Addr) (n1 n2 c1 c2 : Nat) (ts fr : List Int) (w : World) (h1 : Rds B1 w .u8 A1 n1 c1 ts) (h2 : Rds B2 w .u8 A2 n2 c2 fr) (v0 : 0 ≤ v) (v1 : v ≤ 4294967295) (l1 : n1 ≤ 20) (l2 : n2 ≤ 20) :
    Calls Try.prog 58 #[.int .u8 first, .int .i64 v, .slice A1 n1 c1, .slice A2 n2 c2] w (BytesPost (headB first v ts fr) w) := by
  have H1 := Lib.hid h1
  have H2 := Lib.hid h2
  have L1 := Lib.hid h1.len
  have L2 := Lib.hid h2.len
  clear h1 h2
  have w1 : IntKind.u8.wrap (n1 : Int) = (n1 : Int) := by show (n1 : Int) % 256 = _; omega
  have w2 : IntKind.u8.wrap (n2 : Int) = (n2 : Int) := by show (n2 : Int) % 256 = _; omega
  obtain ⟨W, hW⟩ : ∃ W, W = w.alloc (.cells #[.int .u8 first] 5) := ⟨_, rfl⟩
  have HBW : Hid (Below w.heap.size w W) := by rw [hW]; exact below_new _
  have hsW : Hid (w.heap.size ≤ W.heap.size) := HBW.out.size
  have HO : Hid (OwnI W w.heap.size .u8 (.slice (some ⟨w.heap.size, 0, none⟩) 1 1) [first]) := by
    rw [hW]
    exact OwnI.fresh (w := w) (B := w.heap.size) (k := .u8) (xs := [first]) (t := 5) (Nat.le_refl _) (by decide) (by simp)
  go_enter Try.func58, Try.ntmps58
  go_wp2_with fail
  rw [← hW]
  clear hW
  have hbig := big05_any v 4 W (by decide) v0 (by omega)
  refine hbig.mono ?_
  clear hbig
  rintro e w3 ⟨v3, rfl, hv3, hb3⟩
  rw [bigW_four] at hv3
  obtain ⟨A3, c3, rfl⟩ := hv3.slice
  have R3 := Lib.hid (hv3.rds (B' := 0)).cell
  have HO3 := Lib.hid (HO.out.below hb3)
  have HB3 := Lib.hid (below_next HBW.out HBW.out.size hb3)
  rw [bigB_len]
  clear hv3 hb3
  go_wp2_with (at_builtin; refine wp_app_u8 rfl _ _ rfl rfl rfl HO3.out R3.out (bigB_len _) HB3.out.size (by simp) ?_)
  intro v4 w4 hv4 hg4 hb4
  have HV4 := Lib.hid hv4
  have HB4 := Lib.hid (HB3.out.trans hb4)
  clear hv4 hg4 hb4
  go_wp2_with (at_builtin; refine wp_app_u8 (ys := [(n1 : Int)]) rfl _ _ rfl rfl rfl (HV4.out.below (below_new _)) (RdI.one_at _ .u8 _ _ rfl) rfl ?_ (by simp [bigB_len]) ?_)
  · have := HB4.out.size; simp; omega
  intro v5 w5 hv5 hg5 hb5
  have HV5 := Lib.hid hv5
  have HB5 := Lib.hid ((HB4.out.alloc HB4.out.size _).trans hb5)
  have R5 := Lib.hid (H1.out.below HB5.out).cell
  clear hv5 hg5 hb5 HV4
  go_wp2_with (at_builtin; refine wp_app_u8 (ys := ts) rfl _ _ rfl rfl rfl HV5.out R5.out L1.out HB5.out.size (by simp [bigB_len]; omega) ?_)
  intro v6 w6 hv6 hg6 hb6
  have HV6 := Lib.hid hv6
  have HB6 := Lib.hid (HB5.out.trans hb6)
  clear hv6 hg6 hb6 HV5
  go_wp2_with (at_builtin; refine wp_app_u8 (ys := [(n2 : Int)]) rfl _ _ rfl rfl rfl (HV6.out.below (below_new _)) (RdI.one_at _ .u8 _ _ rfl) rfl ?_ (by simp [bigB_len, L1.out]; omega) ?_)
  · have := HB6.out.size; simp; omega
  intro v7 w7 hv7 hg7 hb7
  have HV7 := Lib.hid hv7
  have HB7 := Lib.hid ((HB6.out.alloc HB6.out.size _).trans hb7)
  have R7 := Lib.hid (H2.out.below HB7.out).cell
  clear hv7 hg7 hb7 HV6
  go_wp2_with (at_builtin; refine wp_app_u8 (ys := fr) rfl _ _ rfl rfl rfl HV7.out R7.out L2.out HB7.out.size (by simp [bigB_len, L1.out]; omega) ?_)
  intro v8 w8 hv8 hg8 hb8
  have HV8 : Hid (OwnI w8 w.heap.size .u8 v8 (headB first v ts fr)) := by
    show OwnI _ _ _ _ _
    have := hv8
    simpa [headB, L1.out, L2.out] using this
  have HB8 := Lib.hid (HB7.out.trans hb8)
  clear hv8 hg8 hb8 HV7
  go_wp2_with fail
  go_ret
  exact ⟨_, rfl, HV8.out, HB8.out⟩

set_option maxHeartbeats 3200000 in
set_option maxRecDepth 100000 in
theorem writeList08_any {B1 B2 B3 : Nat} (A1 A2 A3 : Option Addr) (n1 n2 n3 c1 c2 c3 : Nat) (ts fr vs : List Int) (w : World) (h1 : Rds B1 w .u8 A1 n1 c1 ts) (h2 : Rds B2 w .u8 A2 n2 c2 fr) (h3 : Rds B3 w .i64 A3 n3 c3 vs) :
    Calls Try.prog 28 #[.agg #[.slice A1 n1 c1, .slice A2 n2 c2, .slice A3 n3 c3]] w (BytesPost (listB ts fr vs) w) := by
  have H1 := Lib.hid h1
  have H2 := Lib.hid h2
  have H3 := Lib.hid h3
  have L1 := Lib.hid h1.len
  have L2 := Lib.hid h2.len
  have L3 := Lib.hid h3.len
  clear h1 h2 h3
  obtain ⟨W, hW⟩ : ∃ W, W = w.alloc (.cells #[.slice A1 n1 c1, .slice A2 n2 c2, .slice A3 n3 c3] 42) := ⟨_, rfl⟩
  have HBW : Hid (Below w.heap.size w W) := by rw [hW]; exact below_new _
  have hsW : W.heap.size = w.heap.size + 1 := by rw [hW]; simp
  have x2 : W.cell? ⟨w.heap.size, 2, none⟩ = some (.slice A3 n3 c3) := by rw [hW]; simp [go_sem]
  have HWW := Lib.hid hW
  go_enter Try.func28, Try.ntmps28
  by_cases k1 : 20 < n1
  · have HE := Lib.hid (listB_no (fr := fr) (vs := vs) (ts := ts) (fun h => by have := h.1.1; have := L1.out; omega))
    clear hW hsW x2
    go_wp2_with fail
    go_ret
    rw [HE.out, ← HWW.out]
    exact BytesPost.nil HBW.out
  by_cases k2 : 20 < n2
  · have HE := Lib.hid (listB_no (fr := fr) (vs := vs) (ts := ts) (fun h => by have := h.1.2; have := L2.out; omega))
    clear hW hsW x2
    go_wp2_with fail
    go_ret
    rw [HE.out, ← HWW.out]
    exact BytesPost.nil HBW.out
  by_cases k3 : n3 < 1
  · have HE := Lib.hid (listB_no (ts := ts) (fr := fr) (vs := vs) (fun h => by have := h.2.1; have := L3.out; omega))
    clear hW hsW x2
    go_wp2_with fail
    go_ret
    rw [HE.out, ← HWW.out]
    exact BytesPost.nil HBW.out
  by_cases k4 : 16 < n3
  · have HE := Lib.hid (listB_no (ts := ts) (fr := fr) (vs := vs) (fun h => by have := h.2.2.1; have := L3.out; omega))
    clear hW hsW x2
    go_wp2_with fail
    go_ret
    rw [HE.out, ← HWW.out]
    exact BytesPost.nil HBW.out
  have HK : Hid (NamesOk ts fr) := ⟨by have := L1.out; omega, by have := L2.out; omega⟩
  have HSW := Lib.hid hsW
  clear hsW
  go_wp2_with fail
  rw [← hW]
  clear hW HWW
  have hhd := head08_any 128 0 A1 A2 n1 n2 c1 c2 ts fr W (H1.out.below HBW.out) (H2.out.below HBW.out) (by decide) (by decide) (by omega) (by omega)
  refine hhd.mono ?_
  clear hhd
  rintro e w3 ⟨v3, rfl, hv3, hb3⟩
  have x3 := later_cell hb3 x2 (by simp; have := HSW.out; omega)
  have HV3 := Lib.hid hv3
  have HB3' := Lib.hid hb3
  have HM : Hid ((headB 128 0 ts fr).length ≤ 47) := by show _ ≤ _; rw [headB_len]; have := HK.out.1; have := HK.out.2; omega
  clear hv3 hb3 x2
  go_wp2_with fail
  go_loopw [3, 4] (fun v i wr => ∃ k : Nat, k ≤ n3 ∧ i = .int .i64 k ∧ OwnI wr W.heap.size .u8 v (headB 128 0 ts fr ++ bigs (vs.take k)) ∧ Below W.heap.size W wr ∧ Hid (∀ j, j < k → VerOk (nth vs j))) (fun _ i _ => n3 - (intOf i).toNat)
  case atStart => exact ⟨0, Nat.zero_le _, rfl, by have := HV3.out; simpa [bigs] using this, HB3'.out, fun j hj => by omega⟩
  case round =>
    obtain ⟨k, hk, rfl, hv, hb, hok⟩ := hrel
    have HV := Lib.hid hv
    have HB := Lib.hid hb
    have x4 : wr.cell? ⟨w.heap.size, 2, none⟩ = some (.slice A3 n3 c3) := by
      have e : W.cell? ⟨w.heap.size, 2, none⟩ = some (.slice A3 n3 c3) := by rw [← Below.cell HB3'.out (by simp; have := HSW.out; omega)]; exact x3
      exact later_cell hb e (by simp; have := HSW.out; omega)
    clear hv hb
    by_cases hlt : k < n3
    · have HR := Lib.hid ((H3.out.below HBW.out).below HB.out)
      obtain ⟨b, o, rfl, hcx⟩ := RdI.at_ HR.out.cell (by have := L3.out; omega)
      have g1 := hcx k (by have := L3.out; omega)
      clear hcx
      have hk0 : (0 : Int) ≤ (k : Int) := by omega
      have hk1 : (k : Int) < (n3 : Int) := by omega
      by_cases hz1 : nth vs k < 1
      · have HE := Lib.hid (listB_no (ts := ts) (fr := fr) (vs := vs) (fun h => by have := (h.2.2.2 _ (nth_mem (xs := vs) (j := k) (by have := L3.out; omega))).1; omega))
        go_wp2_with fail
        go_ret
        rw [HE.out]
        exact BytesPost.nil (HBW.out.trans (HB.out.mono (by have := HSW.out; omega)))
      by_cases hz2 : 4294967295 < nth vs k
      · have HE := Lib.hid (listB_no (ts := ts) (fr := fr) (vs := vs) (fun h => by have := (h.2.2.2 _ (nth_mem (xs := vs) (j := k) (by have := L3.out; omega))).2; omega))
        go_wp2_with fail
        go_ret
        rw [HE.out]
        exact BytesPost.nil (HBW.out.trans (HB.out.mono (by have := HSW.out; omega)))
      have HZ : Hid (VerOk (nth vs k)) := ⟨by omega, by omega⟩
      have hbig := big05_any (nth vs k) 4 wr (by decide) (by omega) (by omega)
      go_wp2_with fail
      refine hbig.mono ?_
      clear hbig
      rintro e w6 ⟨v6, rfl, hv6, hb6⟩
      rw [bigW_four] at hv6
      obtain ⟨A6, c6, rfl⟩ := hv6.slice
      have R6 := Lib.hid (hv6.rds (B' := 0)).cell
      have HV6 := Lib.hid (HV.out.below hb6)
      have HB6 := Lib.hid (below_next HB.out HB.out.size hb6)
      have hle : (headB 128 0 ts fr ++ bigs (vs.take k)).length ≤ 1000 := by have := HM.out; simp [bigs_len]; omega
      rw [bigB_len] at *
      clear hv6 hb6 hz1 hz2
      go_wp2_with (at_builtin; refine wp_app_u8 rfl _ _ rfl rfl rfl HV6.out R6.out (bigB_len _) HB6.out.size (by omega) ?_)
      intro v' w7 hv7 hg7 hb7
      have HV7 : Hid (OwnI w7 W.heap.size .u8 v' (headB 128 0 ts fr ++ bigs (vs.take (k + 1)))) := by
        rw [bigs_take (by have := L3.out; omega)]
        exact hv7
      have HB7 := Lib.hid (HB6.out.trans hb7)
      clear hv7 hg7 hb7 hle
      go_wp2_with fail
      go_roundw
      case rel => exact ⟨k + 1, by omega, by go_num, HV7.out, HB7.out, fun j hj => by
        rcases Nat.lt_or_ge j k with h | h
        · exact hok.out j h
        · obtain rfl : j = k := by omega
          exact HZ.out⟩
      case measure => simp [intOf]; omega
    · obtain rfl : k = n3 := by omega
      have HE : Hid (headB 128 0 ts fr ++ bigs (vs.take k) = listB ts fr vs) := by
        show _ = _
        rw [List.take_of_length_le (by have := L3.out; omega), listB_yes]
        refine ⟨HK.out, by have := L3.out; omega, by have := L3.out; omega, fun v hv => ?_⟩
        obtain ⟨j, hj, rfl⟩ := List.mem_iff_getElem.1 hv
        have := hok.out j (by have := L3.out; omega)
        have e := nth_lt hj
        rw [List.getElem?_eq_getElem hj] at e
        rw [Option.some.inj e]
        exact this
      go_wp2_with fail
      go_ret
      rw [← HE.out]
      exact ⟨_, rfl, HV.out.mono (by have := HSW.out; omega), HBW.out.trans (HB.out.mono (by have := HSW.out; omega))⟩

set_option maxHeartbeats 3200000 in
set_option maxRecDepth 100000 in
theorem body08_any {B1 B2 : Nat} (ver token tag : Int) (A1 A2 : Option Addr) (n1 n2 c1 c2 : Nat) (ts fr : List Int) (w : World) (h1 : Rds B1 w .u8 A1 n1 c1 ts) (h2 : Rds B2 w .u8 A2 n2 c2 fr) :
    Calls Try.prog 61 #[.agg #[.int .i64 ver, .slice A1 n1 c1, .slice A2 n2 c2, .int .i64 token, .int .i64 tag]] w (BytesPost (bodyB ver ts fr token) w) := by
  have H1 := Lib.hid h1
  have H2 := Lib.hid h2
  have L1 := Lib.hid h1.len
  have L2 := Lib.hid h2.len
  clear h1 h2
  obtain ⟨W, hW⟩ : ∃ W, W = w.alloc (.cells #[.int .i64 ver, .slice A1 n1 c1, .slice A2 n2 c2, .int .i64 token, .int .i64 tag] 44) := ⟨_, rfl⟩
  have HBW : Hid (Below w.heap.size w W) := by rw [hW]; exact below_new _
  have hsW : W.heap.size = w.heap.size + 1 := by rw [hW]; simp
  have x0 : W.cell? ⟨w.heap.size, 0, none⟩ = some (.int .i64 ver) := by rw [hW]; simp [go_sem]
  have x1 : W.cell? ⟨w.heap.size, 1, none⟩ = some (.slice A1 n1 c1) := by rw [hW]; simp [go_sem]
  have x2 : W.cell? ⟨w.heap.size, 2, none⟩ = some (.slice A2 n2 c2) := by rw [hW]; simp [go_sem]
  have x3 : W.cell? ⟨w.heap.size, 3, none⟩ = some (.int .i64 token) := by rw [hW]; simp [go_sem]
  have HSW := Lib.hid hsW
  clear hsW
  go_enter Try.func61, Try.ntmps61
  go_wp2_with fail
  rw [← hW]
  clear hW
  have hnum := rnumber_any token W
  refine hnum.mono ?_
  clear hnum
  rintro e w4 ⟨v4, rfl, hv4, hb4⟩
  have y0 := later_cell hb4 x0 (by simp; have := HSW.out; omega)
  have y1 := later_cell hb4 x1 (by simp; have := HSW.out; omega)
  have y2 := later_cell hb4 x2 (by simp; have := HSW.out; omega)
  have HB4 := Lib.hid hb4
  have HB04 := Lib.hid (HBW.out.trans (hb4.mono (by have := HSW.out; omega)))
  obtain ⟨A4, c4, rfl⟩ := hv4.slice
  have HV4 := Lib.hid hv4
  clear hv4 hb4 x0 x1 x2 x3
  by_cases k1 : 20 < n1
  · have HE := Lib.hid (bodyB_no (ver := ver) (token := token) (ts := ts) (fr := fr) (fun h => by have := h.1.1; have := L1.out; omega))
    go_wp2_with fail
    go_ret
    rw [HE.out]
    exact BytesPost.nil HB04.out
  by_cases k2 : 20 < n2
  · have HE := Lib.hid (bodyB_no (ver := ver) (token := token) (ts := ts) (fr := fr) (fun h => by have := h.1.2; have := L2.out; omega))
    go_wp2_with fail
    go_ret
    rw [HE.out]
    exact BytesPost.nil HB04.out
  by_cases k3 : ver < 1
  · have HE := Lib.hid (bodyB_no (ver := ver) (token := token) (ts := ts) (fr := fr) (fun h => by have := h.2.1.1; omega))
    go_wp2_with fail
    go_ret
    rw [HE.out]
    exact BytesPost.nil HB04.out
  by_cases k4 : 4294967295 < ver
  · have HE := Lib.hid (bodyB_no (ver := ver) (token := token) (ts := ts) (fr := fr) (fun h => by have := h.2.1.2; omega))
    go_wp2_with fail
    go_ret
    rw [HE.out]
    exact BytesPost.nil HB04.out
  by_cases k5 : 1 ≤ token ∧ token ≤ 65536
  rotate_left
  · have HE := Lib.hid (bodyB_no (ver := ver) (token := token) (ts := ts) (fr := fr) (fun h => k5 h.2.2))
    rw [numB_no k5] at *
    simp only [List.length_nil] at *
    clear k5
    go_wp2_with fail
    go_ret
    rw [HE.out]
    exact BytesPost.nil HB04.out
  have HE := Lib.hid (bodyB_yes (ver := ver) (ts := ts) (fr := fr) (token := token) ⟨⟨by have := L1.out; omega, by have := L2.out; omega⟩, ⟨by omega, by omega⟩, k5⟩)
  have R4 := Lib.hid (HV4.out.rds (B' := 0))
  have N4 := Lib.hid (numB_four k5.1 k5.2)
  have HK : Hid (NamesOk ts fr) := ⟨by have := L1.out; omega, by have := L2.out; omega⟩
  rw [N4.out]
  have hhd := head08_any 240 ver A1 A2 n1 n2 c1 c2 ts fr w4 (H1.out.below HB04.out) (H2.out.below HB04.out) (by omega) (by omega) (by omega) (by omega)
  clear k5
  go_wp2_with fail
  refine hhd.mono ?_
  clear hhd
  rintro e w5 ⟨v5, rfl, hv5, hb5⟩
  have hlen : (headB 240 ver ts fr).length ≤ 47 := by rw [headB_len]; have := HK.out.1; have := HK.out.2; omega
  have R5 := Lib.hid (R4.out.below hb5).cell
  have HB5 := Lib.hid (below_next HB04.out HB04.out.size hb5)
  have HV5 := Lib.hid (hv5.mono HB04.out.size)
  clear hv5 hb5
  go_wp2_with (at_builtin; refine wp_app_u8 rfl _ _ rfl rfl rfl HV5.out R5.out N4.out HB5.out.size (by omega) ?_)
  intro v' w7 hv7 hg7 hb7
  have HV7 := Lib.hid hv7
  have HB7 := Lib.hid (HB5.out.trans hb7)
  clear hv7 hg7 hb7
  go_wp2_with fail
  go_ret
  rw [HE.out]
  exact ⟨_, rfl, HV7.out, HB7.out⟩

set_option maxHeartbeats 3200000 in
set_option maxRecDepth 100000 in
theorem writeRetry08_any {B1 B2 : Nat} (ver token tag : Int) (A1 A2 : Option Addr) (n1 n2 c1 c2 : Nat) (ts fr : List Int) (w : World) (h1 : Rds B1 w .u8 A1 n1 c1 ts) (h2 : Rds B2 w .u8 A2 n2 c2 fr) :
    Calls Try.prog 31 #[.agg #[.int .i64 ver, .slice A1 n1 c1, .slice A2 n2 c2, .int .i64 token, .int .i64 tag]] w (BytesPost (retryB ver ts fr token tag) w) := by
  have H1 := Lib.hid h1
  have H2 := Lib.hid h2
  clear h1 h2
  obtain ⟨W, hW⟩ : ∃ W, W = w.alloc (.cells #[.int .i64 ver, .slice A1 n1 c1, .slice A2 n2 c2, .int .i64 token, .int .i64 tag] 44) := ⟨_, rfl⟩
  have HBW : Hid (Below w.heap.size w W) := by rw [hW]; exact below_new _
  have hsW : W.heap.size = w.heap.size + 1 := by rw [hW]; simp
  have x0 : W.cell? ⟨w.heap.size, 0, none⟩ = some (.int .i64 ver) := by rw [hW]; simp [go_sem]
  have x1 : W.cell? ⟨w.heap.size, 1, none⟩ = some (.slice A1 n1 c1) := by rw [hW]; simp [go_sem]
  have x2 : W.cell? ⟨w.heap.size, 2, none⟩ = some (.slice A2 n2 c2) := by rw [hW]; simp [go_sem]
  have x3 : W.cell? ⟨w.heap.size, 3, none⟩ = some (.int .i64 token) := by rw [hW]; simp [go_sem]
  have x4 : W.cell? ⟨w.heap.size, 4, none⟩ = some (.int .i64 tag) := by rw [hW]; simp [go_sem]
  have HSW := Lib.hid hsW
  clear hsW
  go_enter Try.func31, Try.ntmps31
  go_wp2_with fail
  rw [← hW]
  clear hW
  go_region_held3 (fun w' => w'.cell? ⟨w.heap.size, 0, none⟩ = some (.int .i64 ver) ∧ w'.cell? ⟨w.heap.size, 1, none⟩ = some (.slice A1 n1 c1) ∧ w'.cell? ⟨w.heap.size, 2, none⟩ = some (.slice A2 n2 c2) ∧ w'.cell? ⟨w.heap.size, 3, none⟩ = some (.int .i64 token) ∧ w'.cell? ⟨w.heap.size, 4, none⟩ = some (.int .i64 tag))
    (first | exact ⟨y0, y1, y2, y3, y4⟩ | exact ⟨z0, z1, z2, z3, z4⟩ | go_keep) ((first
    | (go_at_call 61
       refine (body08_any ver token tag A1 A2 n1 n2 c1 c2 ts fr W.drew ((H1.out.below HBW.out).below ((Below.refl _ _).drew)) ((H2.out.below HBW.out).below ((Below.refl _ _).drew))).mono ?_
       rintro e w3 ⟨v3, rfl, hv3, hb3⟩
       have y0 := later_cell hb3 x0 (by simp; have := HSW.out; omega)
       have y1 := later_cell hb3 x1 (by simp; have := HSW.out; omega)
       have y2 := later_cell hb3 x2 (by simp; have := HSW.out; omega)
       have y3 := later_cell hb3 x3 (by simp; have := HSW.out; omega)
       have y4 := later_cell hb3 x4 (by simp; have := HSW.out; omega)
       have HB3 : Hid (Below W.heap.size W w3) := (Below.drew (Below.refl W.heap.size W)).trans hb3
       have HV3 : Hid (OwnI w3 W.heap.size .u8 v3 (bodyB ver ts fr token)) := hv3
       clear hv3 hb3)
    | (go_at_call 21
       refine (rnumber_any tag w3).mono ?_
       rintro e w4 ⟨v4, rfl, hv4, hb4⟩
       have hs34 := HB3.out.size
       have z0 := later_cell hb4 y0 (by simp; have := HSW.out; omega)
       have z1 := later_cell hb4 y1 (by simp; have := HSW.out; omega)
       have z2 := later_cell hb4 y2 (by simp; have := HSW.out; omega)
       have z3 := later_cell hb4 y3 (by simp; have := HSW.out; omega)
       have z4 := later_cell hb4 y4 (by simp; have := HSW.out; omega)
       have HB4 := Lib.hid (below_next HB3.out HB3.out.size hb4)
       have HV4 : Hid (OwnI w4 W.heap.size .u8 v4 (numB tag)) := hv4.mono HB3.out.size
       have HV34 := Lib.hid (HV3.out.below hb4)
       clear hv4 hb4)))
  all_goals
    obtain ⟨A3, c3, rfl⟩ := HV34.out.slice
    obtain ⟨A4, c4, rfl⟩ := HV4.out.slice
    have HB04 := Lib.hid (HBW.out.trans (HB4.out.mono (by have := HSW.out; omega)))
    clear x0 x1 x2 x3 x4 y0 y1 y2 y3 y4 z0 z1 z2 z3 z4 hs34
    by_cases k1 : BodyOk ver ts fr token
    rotate_left
    · have HE := Lib.hid (retryB_no (tag := tag) (fun h => k1 h.1))
      rw [bodyB_no k1] at *
      simp only [List.length_nil] at *
      clear k1
      go_wp2_with fail
      go_ret
      rw [HE.out]
      exact BytesPost.nil HB04.out
    have hl := bodyB_len k1
    have hm : (((bodyB ver ts fr token).length : Int) == 0) = false := beq_zero (by omega)
    by_cases k2 : 1 ≤ tag ∧ tag ≤ 65536
    rotate_left
    · have HE := Lib.hid (retryB_no (ver := ver) (ts := ts) (fr := fr) (token := token) (fun h => k2 h.2))
      rw [numB_no k2] at *
      simp only [List.length_nil] at *
      clear k1 k2 hl
      go_wp2_with fail
      go_ret
      rw [HE.out]
      exact BytesPost.nil HB04.out
    have HE := Lib.hid (retryB_yes (ver := ver) (ts := ts) (fr := fr) (token := token) ⟨k1, k2⟩)
    have hlen : (bodyB ver ts fr token).length ≤ 51 := by rw [hl]; have := k1.1.1; have := k1.1.2; omega
    have R4 := Lib.hid (HV4.out.rds (B' := 0)).cell
    have N4 := Lib.hid (numB_four k2.1 k2.2)
    rw [N4.out]
    obtain ⟨M, hM⟩ : ∃ M, M = (bodyB ver ts fr token).length := ⟨_, rfl⟩
    have hs4 := HB04.out.size
    have HS4 := Lib.hid (show W.heap.size ≤ w4.heap.size from HB4.out.size)
    rw [← hM] at hlen hm HV34 ⊢
    have HM := Lib.hid hM
    clear k1 k2 hM HV3 HV4 hl
    go_wp2_with (at_builtin; refine wp_app_u8 rfl _ _ rfl rfl rfl HV34.out R4.out N4.out HS4.out (by have := HM.out; omega) ?_)
    intro v' w7 hv7 hg7 hb7
    have HV7 := Lib.hid hv7
    have HB7 := Lib.hid hb7
    clear hv7 hg7 hb7
    go_wp2_with fail
    go_ret
    rw [HE.out]
    exact ⟨_, rfl, HV7.out.mono (by have := HSW.out; omega), HB04.out.trans (HB7.out.mono (by have := HSW.out; omega))⟩
end Go.Proofs.Ytoelbhmgmlnieaa
