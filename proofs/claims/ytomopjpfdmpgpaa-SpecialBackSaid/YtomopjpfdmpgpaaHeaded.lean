/- Own texts, one behind the other. Each bears its own remark. -/
import Derived.Test.YtomopjpfdmpgpaaClone08
/- The program's layer 8: a name is read off. No condition. -/
set_option linter.unusedVariables false
set_option linter.unusedSimpArgs false
namespace Go.Proofs.Ytomopjpfdmpgpaa
open Go Go.RowKit

def nameOk (xs : List Int) : Prop := 1 ≤ xs.length ∧ nth xs 0 ≤ 20 ∧ 1 + (nth xs 0).toNat ≤ xs.length
def NmPost (q D g : Nat) (A : Option Addr) (n c : Nat) (xs : List Int) (V : World) (e : Ending) (V' : World) : Prop :=
  Below g V V' ∧ V.heap.size ≤ V'.heap.size ∧ (nameOk xs → ∃ k A1 c1, k = (nth xs 0).toNat ∧ e = .returned (.tuple #[.slice A1 k c1, .bool true]) ∧ OwnI V' V.heap.size .u8 (.slice A1 k c1) (cutL xs 1 k) ∧
    V'.heap[g]? = some (.cells #[.slice (cutA A (k + 1) c) (n - (k + 1)) (c - (k + 1))] 22 (0, 0)) ∧ Rds D V' .u8 (cutA A (k + 1) c) (n - (k + 1)) (c - (k + 1)) (xs.drop (k + 1)) ∧
    (∀ j o, g < j → V.heap[j]? = some o → V'.heap[j]? = some o)) ∧
  (¬ nameOk xs → e = .returned (.tuple #[.slice none 0 0, .bool false]) ∧ ∃ k, V' = V.drewN k)
set_option maxHeartbeats 3200000 in
set_option maxRecDepth 100000 in
theorem name08_any {q D g n c : Nat} {A : Option Addr} {xs : List Int} (V : World) (h : Rds D V .u8 A n c xs) (hb : Byt xs) (hg : V.heap[g]? = some (.cells #[.slice A n c] 22 (0, 0))) (hq : ∀ a, 0 < n → A = some a → a.block < q) (hqg : q ≤ g) :
    Calls Try.prog 58 #[.pointer (some ⟨g, 0, none⟩)] V (NmPost q D g A n c xs V) := by
  have hl := h.len
  have hcap := h.cap
  have hmax := h.max
  have HR := Lib.hid h
  have HBY := Lib.hid hb
  have HG := Lib.hid hg
  have HQ := Lib.hid hq
  have x0 : V.cell? ⟨g, 0, none⟩ = some (.slice A n c) := by rw [cell_of_row V g 0 _ _ _ hg]; rfl
  have hlt := lt_of_get hg
  clear h hb hg hq
  by_cases q0 : n = 0
  · have HN : Hid (¬ nameOk xs) := fun k => by have := k.1; omega
    subst q0
    go_enter Try.func58, Try.ntmps58
    go_wp2_with fail
    go_region
    go_wp2_with fail
    go_ret2
    exact ⟨(Below.refl _ _).drew, Nat.le_refl _, fun k => absurd k HN.out, fun _ => ⟨rfl, 1, rfl⟩⟩
  obtain ⟨b, o, rfl, hcx⟩ := RdI.at_ HR.out.cell (by omega)
  have c0 : V.cell? ⟨b, o, none⟩ = some (.int .u8 (nth xs 0)) := hcx 0 (by omega)
  obtain ⟨y0, y1⟩ := HBY.out.nth 0
  clear hcx
  obtain ⟨y, hy⟩ : ∃ y, y = nth xs 0 := ⟨_, rfl⟩
  rw [← hy] at c0 y0 y1
  have HYn := Lib.hid hy
  have hn0 : ((n : Int) == 0) = false := by rw [beq_eq_false_iff_ne]; omega
  have hni : (0 : Int) < n := by omega
  have hnn : 0 < n := by omega
  have hw : IntKind.i64.wrap y = y := IntWalk.i64_in _ (by omega)
  clear hy
  by_cases q1 : 20 < y
  · have HN : Hid (¬ nameOk xs) := fun k => by have := k.2.1; rw [← HYn.out] at this; omega
    go_enter Try.func58, Try.ntmps58
    go_wp2_with fail
    go_region
    go_wp2_with fail
    go_ret2
    exact ⟨(Below.refl _ _).drew, Nat.le_refl _, fun k => absurd k HN.out, fun _ => ⟨rfl, 1, rfl⟩⟩
  have q1' : y ≤ 20 := by omega
  have q1b : decide (20 < y) = false := decide_eq_false q1
  by_cases q2 : (n : Int) - 1 < y
  · have HN : Hid (¬ nameOk xs) := fun k => by have := k.2.2; rw [← HYn.out] at this; omega
    go_enter Try.func58, Try.ntmps58
    go_wp2_with fail
    go_region
    go_wp2_with fail
    go_ret2
    exact ⟨(Below.refl _ _).drew, Nat.le_refl _, fun k => absurd k HN.out, fun _ => ⟨rfl, 1, rfl⟩⟩
  obtain ⟨k, rfl⟩ : ∃ k : Nat, y = k := ⟨y.toNat, by omega⟩
  have HK : Hid (k = (nth xs 0).toNat) := by show _ = _; rw [← HYn.out, Int.toNat_natCast]
  have HN : Hid (nameOk xs) := ⟨by omega, by rw [← HYn.out]; omega, by rw [← HK.out]; omega⟩
  have hkn : 1 + k ≤ n := by omega
  have hk20 : k ≤ 20 := by omega
  have q2' : (k : Int) ≤ (n : Int) - 1 := by omega
  have hsz : V.drew.cell? ⟨g, 0, none⟩ = some (.slice (some ⟨b, o, none⟩) n c) := x0
  have HRd := Lib.hid (HR.out.below ((Below.refl _ _).drew))
  go_enter Try.func58, Try.ntmps58
  go_wp2_with fail
  go_region
  go_wp2_with ((with_reducible show wpList _ _ _ (Oper.mk _ (Op.slice _ _ _ _ _) _ _ _ _ :: _) _ _); refine wp_cut2 rfl _ _ _ rfl rfl rfl rfl 1 (k + 1) rfl (by push_cast; omega) (by omega) (by omega) HRd.out ?_; intro hr2; have HR2 := Lib.hid hr2; clear hr2)
  have key := clone08_any _ _ _ _ _ HR2.out (by omega)
  rw [Nat.add_sub_cancel] at key
  refine key.mono ?_
  clear key
  rintro e w3 ⟨v3, rfl, hv3, hb3⟩
  have hcl : (xs.take (k + 1)).drop 1 = cutL xs 1 k := by unfold cutL; rw [Nat.add_comm]
  rw [hcl] at hv3
  obtain ⟨A1, c1, hvs⟩ := hv3.slice
  rw [cutL_len (show 1 + k ≤ xs.length from by omega)] at hvs
  subst hvs
  have hg3 : w3.heap[g]? = some (.cells #[.slice (some ⟨b, o, none⟩) n c] 22 (0, 0)) := (hb3.block _ hlt).trans HG.out
  have z0 : w3.cell? ⟨g, 0, none⟩ = some (.slice (some ⟨b, o, none⟩) n c) := by rw [cell_of_row w3 g 0 _ _ _ hg3]; rfl
  have zf := frozen_of_row w3 g 0 _ _ hg3
  have HV3 : Hid (OwnI w3 V.heap.size .u8 (.slice A1 k c1) (cutL xs 1 k)) := hv3
  have HG3 := Lib.hid hg3
  have HB3 := Lib.hid hb3
  have HR3 := Lib.hid (HRd.out.below hb3)
  clear hv3 hb3 hg3 hcl
  go_wp2_with ((with_reducible show wpList _ _ _ (Oper.mk _ (Op.slice _ _ _ _ _) _ _ _ _ :: _) _ _); refine wp_cut rfl _ _ rfl rfl rfl (k + 1) (by push_cast; rfl) (by omega) HR3.out ?_; intro hr4; have HR4 := Lib.hid hr4; clear hr4)
  go_ret2
  have hAg : ∀ a, 0 < n → some (⟨b, o, none⟩ : Addr) = some a → a.block ≠ g := fun a p e => by have := HQ.out a p e; omega
  refine ⟨?_, ?_, fun _ => ⟨k, A1, c1, HK.out, rfl, ?_, ?_, ?_, ?_⟩, fun hno => absurd HN.out hno⟩
  · exact Below.setCell (((Below.refl g V).drew).trans (HB3.out.mono (Nat.le_of_lt hlt))) (Nat.le_refl g) _
  · have := HB3.out.size
    show V.heap.size ≤ _
    simpa [World.setCell] using this
  · exact HV3.out.setBelow hlt _
  · rw [in_set HG3.out]; rfl
  · refine Rds.setIn (i := 0) HR4.out (fun a p e => ?_)
    have hne := cutA_away (q := q) (D := 0) (s := k + 1) (c := c) (m := n - (k + 1)) HQ.out (by omega)
    intro he
    unfold cutA at e
    split at e
    · have := HQ.out a (by omega) e; omega
    · simp only [Option.map_some] at e
      obtain rfl := Option.some.inj e
      rw [add_block] at he
      exact hAg _ hnn rfl he
  · intro j ob hj hjo
    rw [in_other _ _ (show j ≠ g from by omega)]
    exact (HB3.out.block _ (lt_of_get hjo)).trans hjo
end Go.Proofs.Ytomopjpfdmpgpaa

/- The program's layer 8: headed. No condition. -/
set_option linter.unusedVariables false
set_option linter.unusedSimpArgs false
namespace Go.Proofs.Ytomopjpfdmpgpaa
open Go Go.RowKit

theorem own_fr {w w' : World} {B g : Nat} {k : IntKind} {v : Value} {xs : List Int} (h : OwnI w B k v xs) (hg : g < B) (hf : ∀ j o, g < j → w.heap[j]? = some o → w'.heap[j]? = some o) : OwnI w' B k v xs := by
  rcases h with h | ⟨g', cap, cur, t, rfl, hb, hgg, r⟩
  · exact .inl h
  · exact .inr ⟨g', cap, cur, t, rfl, hb, hf _ _ (by omega) hgg, r⟩
theorem own_away {w : World} {B q D : Nat} {k : IntKind} {A : Option Addr} {n c : Nat} {xs : List Int} (h : OwnI w B k (.slice A n c) xs) (hD : D ≤ B) : Away q D A n := by
  intro a p e
  subst e
  rcases h with ⟨rfl, e⟩ | ⟨g', cap, cur, t, e, hb, hgg, r⟩
  · cases e
  · cases e
    exact .inr (Nat.le_trans hD hb)
theorem nth_drop8 (xs : List Int) (a j : Nat) : nth (xs.drop a) j = nth xs (a + j) := by unfold nth; simp [List.getD, List.getElem?_drop]
theorem cutA_lt {q : Nat} {A : Option Addr} {n m s c : Nat} (h : ∀ a, 0 < n → A = some a → a.block < q) (hm : m ≤ n) : ∀ a, 0 < m → cutA A s c = some a → a.block < q := by
  intro a p e
  unfold cutA at e
  split at e
  · exact h a (by omega) e
  · cases A with
    | none => cases e
    | some a0 =>
      simp only [Option.map_some] at e
      obtain rfl := Option.some.inj e
      rw [add_block]
      exact h a0 (by omega) rfl
theorem cutL_drop (xs : List Int) (a b k : Nat) : cutL (xs.drop a) b k = cutL xs (a + b) k := by
  unfold cutL
  rw [List.take_drop, List.drop_drop, show a + (b + k) = a + b + k from by omega]
theorem rds_low {D q g : Nat} {w w' : World} {k : IntKind} {A : Option Addr} {n c : Nat} {xs : List Int} (h : Rds D w k A n c xs) (hq : ∀ a, 0 < n → A = some a → a.block < q) (hqg : q ≤ g) (hb : Below g w w') : Rds D w' k A n c xs := by
  refine ⟨h.len, h.cap, h.max, fun j hj => ?_, fun p a e => ?_⟩
  · obtain ⟨ad, e, hc⟩ := h.cell j hj
    have hl := hq ad (by have := h.len; omega) e
    exact ⟨ad, e, (hb.cell (by rw [add_block]; omega)).trans hc⟩
  · have hk := h.safe p a e
    have hl := hq a p e
    refine ⟨Nat.lt_of_lt_of_le hk.1 hb.size, hk.2.imp id ?_⟩
    rintro ⟨cs, t, fr, q1, q2⟩
    exact ⟨cs, t, fr, (hb.block _ (by omega)).trans q1, q2⟩
theorem start_names {xs : List Int} {f : Int} : startOk xs f ↔ 5 ≤ xs.length ∧ nth xs 0 = f ∧ nameOk (xs.drop 5) ∧ nameOk ((xs.drop 5).drop ((nth (xs.drop 5) 0).toNat + 1)) := by
  unfold startOk nameOk
  simp only [nth_drop8, List.length_drop, List.drop_drop, Nat.add_zero]
  rw [show 5 + ((nth xs 5).toNat + 1) = 6 + (nth xs 5).toNat from by omega]
  constructor
  · rintro ⟨l1, l2, l3, l4, l5, l6⟩
    exact ⟨by omega, l2, ⟨by omega, l3, by omega⟩, by omega, l5, by omega⟩
  · rintro ⟨l1, l2, ⟨l3, l4, l5⟩, l6, l7, l8⟩
    exact ⟨by omega, l2, l4, by omega, l7, by omega⟩
theorem HdPost.some8 {q D : Nat} {xs : List Int} {f : Int} {w w' : World} {k1 k2 n3 c1 c2 c3 : Nat} {A1 A2 A3 : Option Addr} (h : startOk xs f) (hb : Below D w w') (h1 : k1 = (nth (xs.drop 5) 0).toNat) (h2 : k2 = (nth ((xs.drop 5).drop (k1 + 1)) 0).toNat)
    (S1 : Rds D w' .u8 A1 k1 c1 (cutL (xs.drop 5) 1 k1)) (S2 : Rds D w' .u8 A2 k2 c2 (cutL ((xs.drop 5).drop (k1 + 1)) 1 k2)) (S3 : Rds D w' .u8 A3 n3 c3 (((xs.drop 5).drop (k1 + 1)).drop (k2 + 1)))
    (a1 : Away q D A1 k1) (a2 : Away q D A2 k2) (a3 : Away q D A3 n3) :
    HdPost q D (startP xs f) w (.returned (.tuple #[.int .i64 (beN ((xs.take 5).drop 1)), .slice A1 k1 c1, .slice A2 k2 c2, .slice A3 n3 c3, .bool true])) w' := by
  rw [nth_drop8, Nat.add_zero] at h1
  rw [List.drop_drop, nth_drop8, show 5 + (k1 + 1) + 0 = 6 + k1 from by omega] at h2
  rw [cutL_drop] at S1
  rw [List.drop_drop, cutL_drop, show 5 + (k1 + 1) + 1 = 7 + k1 from by omega] at S2
  rw [List.drop_drop, List.drop_drop, show 5 + (k1 + 1 + (k2 + 1)) = 7 + k1 + k2 from by omega] at S3
  unfold startP
  rw [if_pos h, ← h1, ← h2]
  have l1 := S1.len
  have l2 := S2.len
  have l3 := S3.len
  refine ⟨hb, A1, c1, A2, c2, A3, c3, ?_, ?_, ?_, ?_, ?_, ?_, ?_⟩
  · show _ = Ending.returned (.tuple #[.int .i64 (beN (cutL xs 1 4)), .slice A1 (cutL xs (5 + 1) k1).length c1, .slice A2 (cutL xs (7 + k1) k2).length c2, .slice A3 (xs.drop (7 + k1 + k2)).length c3, .bool true])
    rw [l1, l2, l3]; rfl
  · show Rds D w' .u8 A1 (cutL xs (5 + 1) k1).length c1 (cutL xs (5 + 1) k1)
    rw [l1]; exact S1
  · show Rds D w' .u8 A2 (cutL xs (7 + k1) k2).length c2 (cutL xs (7 + k1) k2)
    rw [l2]; exact S2
  · show Rds D w' .u8 A3 (xs.drop (7 + k1 + k2)).length c3 (xs.drop (7 + k1 + k2))
    rw [l3]; exact S3
  · show Away q D A1 (cutL xs (5 + 1) k1).length
    rw [l1]; exact a1
  · show Away q D A2 (cutL xs (7 + k1) k2).length
    rw [l2]; exact a2
  · show Away q D A3 (xs.drop (7 + k1 + k2)).length
    rw [l3]; exact a3
set_option maxHeartbeats 6400000 in
set_option maxRecDepth 100000 in
theorem headed_any {q D n c : Nat} {A : Option Addr} {xs : List Int} (f : Int) (hf0 : 0 ≤ f) (hf1 : f ≤ 255) (w : World) (hD : D ≤ w.heap.size) (h : Rds D w .u8 A n c xs) (hq : ∀ a, 0 < n → A = some a → a.block < q) (hqD : q ≤ D) (hb : Byt xs) :
    Calls Try.prog 32 #[.slice A n c, .int .u8 f] w (HdPost q D (startP xs f) w) := by
  have hlen := h.len
  have hcap := h.cap
  have hmax := h.max
  have HR := Lib.hid h
  have HBY := Lib.hid hb
  have HDD := Lib.hid hD
  have HQ := Lib.hid hq
  clear h hb hD hq
  obtain ⟨W, hW⟩ : ∃ W, W = w.alloc (.cells #[.slice none 0 0] 22) := ⟨_, rfl⟩
  have HBW : Hid (Below w.heap.size w W) := by rw [hW]; exact below_new _
  have hWg : W.heap[w.heap.size]? = some (.cells #[.slice none 0 0] 22 (0, 0)) := by rw [hW]; exact heap_alloc_new w _
  have HWg := Lib.hid hWg
  have g0 : W.cell? ⟨w.heap.size, 0, none⟩ = some (.slice none 0 0) := by rw [cell_of_row W w.heap.size 0 _ _ _ hWg]; rfl
  have gf := frozen_of_row W w.heap.size 0 _ _ hWg
  have hws : W.heap.size = w.heap.size + 1 := by rw [hW]; simp
  by_cases q0 : n < 5
  · have HN : Hid (¬ startOk xs f) := fun k => by have := k.1; omega
    have HBs : Hid (Below D w (W.setCell ⟨w.heap.size, 0, none⟩ (.slice none 0 0))) := Below.setCell (HBW.out.mono HDD.out) HDD.out _
    clear hWg
    go_enter Try.func32, Try.ntmps32
    go_wp2_with fail
    rw [← hW]
    go_wp2_with fail
    refine bodyPost_ret (v := .tuple #[.int .i64 0, .slice none 0 0, .slice none 0 0, .slice none 0 0, .bool false]) (by simp [results, Try.results32, go_sem, g0]) rfl ?_
    exact HdPost.no HN.out (HBW.out.mono HDD.out)
  obtain ⟨b, o, rfl, hcx⟩ := RdI.at_ HR.out.cell (by omega)
  have c0w : w.cell? ⟨b, o, none⟩ = some (.int .u8 (nth xs 0)) := hcx 0 (by omega)
  have c0 := (HBW.out.cell (block_lt_of_cell c0w)).trans c0w
  have c0a : (w.alloc (.cells #[.slice none 0 0] 22)).cell? ⟨b, o, none⟩ = some (.int .u8 (nth xs 0)) := by rw [← hW]; exact c0
  have hnn : 0 < n := by omega
  have hni : (0 : Int) < n := by omega
  have hn5 : ¬ (n : Int) < 5 := by omega
  clear hcx
  obtain ⟨y, hy⟩ : ∃ y, y = nth xs 0 := ⟨_, rfl⟩
  rw [← hy] at c0 c0w c0a
  have HYn := Lib.hid hy
  clear hy c0w
  by_cases q1 : y = f
  rotate_left
  · have HN : Hid (¬ startOk xs f) := fun k => by have := k.2.1; rw [← HYn.out] at this; exact q1 this
    have hb1 : (y != f) = true := by rw [bne_iff_ne]; exact q1
    clear hWg q1
    go_enter Try.func32, Try.ntmps32
    go_wp2_with fail
    rw [← hW]
    go_wp2_with fail
    refine bodyPost_ret (v := .tuple #[.int .i64 0, .slice none 0 0, .slice none 0 0, .slice none 0 0, .bool false]) (by simp [results, Try.results32, go_sem, g0]) rfl ?_
    exact HdPost.no HN.out (HBW.out.mono HDD.out)
  subst q1
  have hb1 : (y != y) = false := by simp
  have HRW := Lib.hid (HR.out.below HBW.out)
  clear hWg
  go_enter Try.func32, Try.ntmps32
  rw [hW] at HRW
  go_wp2_with ((with_reducible show wpList _ _ _ (Oper.mk _ (Op.slice _ _ _ _ _) _ _ _ _ :: _) _ _); refine wp_cut rfl _ _ rfl rfl rfl 5 rfl (by omega) HRW.out ?_; intro hr2; have HR2 := Lib.hid hr2; clear hr2)
  clear HR2 HRW hW g0 gf hws c0 c0a HWg HBW
  obtain ⟨V, hV⟩ : ∃ V, V = w.alloc (.cells #[.slice (cutA (some ⟨b, o, none⟩) 5 c) (n - 5) (c - 5)] 22) := ⟨_, rfl⟩
  rw [← hV]
  have hVg : V.heap[w.heap.size]? = some (.cells #[.slice (cutA (some ⟨b, o, none⟩) 5 c) (n - 5) (c - 5)] 22 (0, 0)) := by rw [hV]; exact heap_alloc_new w _
  have HBV : Hid (Below w.heap.size w V) := by rw [hV]; exact below_new _
  have hVs : V.heap.size = w.heap.size + 1 := by rw [hV]; simp
  have HBXl : Hid (Byt (xs.drop 5)) := byt_dropL HBY.out 5
  have hRV := HR.out.below HBV.out
  have key := name08_any (q := q) (D := D) V (hRV.cut (l := 5) (by omega)) HBXl.out hVg (cutA_lt HQ.out (by omega)) (Nat.le_trans hqD HDD.out)
  have HRV := Lib.hid hRV
  have HVg := Lib.hid hVg
  have HVs := Lib.hid hVs
  clear hRV hV hVs hVg
  refine key.mono ?_
  clear key
  rintro e w3 ⟨hb3, hs3, hy3, hn3⟩
  by_cases k1ok : nameOk (xs.drop 5)
  rotate_left
  · obtain ⟨rfl, k, hk3⟩ := hn3 k1ok
    have HN : Hid (¬ startOk xs y) := fun k => k1ok (start_names.1 k).2.2.1
    have hVg : w3.heap[w.heap.size]? = some (.cells #[.slice (cutA (some ⟨b, o, none⟩) 5 c) (n - 5) (c - 5)] 22 (0, 0)) := by rw [hk3]; exact HVg.out
    have HB3 : Hid (Below w.heap.size w w3) := HBV.out.trans hb3
    have HRV3 : Hid (Rds D w3 .u8 (some ⟨b, o, none⟩) n c xs) := by rw [hk3]; exact HRV.out.drewN k
    have key := name08_any (q := q) (D := D) w3 (HRV3.out.cut (l := 5) (by omega)) HBXl.out hVg (cutA_lt HQ.out (by omega)) (Nat.le_trans hqD HDD.out)
    have HVg3 := Lib.hid hVg
    clear hVg hb3 hs3 hy3 hn3 hk3
    go_wp2_with fail
    refine key.mono ?_
    clear key
    rintro e w5 ⟨hb5, hs5, hy5, hn5⟩
    obtain ⟨rfl, k', hk5⟩ := hn5 k1ok
    have HUg : Hid (w5.heap[w.heap.size]? = some (.cells #[.slice (cutA (some ⟨b, o, none⟩) 5 c) (n - 5) (c - 5)] 22 (0, 0))) := by rw [hk5]; exact HVg3.out
    have HRU : Hid (Rds D w5 .u8 (some ⟨b, o, none⟩) n c xs) := by rw [hk5]; exact HRV3.out.drewN k'
    have HBU : Hid (Below D w w5) := by rw [hk5]; exact (below_drewN HB3.out k').mono HDD.out
    clear hb5 hs5 hy5 hn5 hk5
    have z0 : w5.cell? ⟨w.heap.size, 0, none⟩ = some (.slice (cutA (some ⟨b, o, none⟩) 5 c) (n - 5) (c - 5)) := by rw [cell_of_row w5 w.heap.size 0 _ _ _ HUg.out]; rfl
    have zl := Lib.hid (lt_of_get HUg.out)
    have hc1 : ¬ c = 1 := by omega
    have hc5 : (5 : Int) ≤ c := by omega
    have hr1 := (HRU.out.below ((Below.refl _ _).drew)).cut2 (l := 1) (m := 5) (by omega) (by omega)
    rw [show cutA (some ⟨b, o, none⟩) 1 c = some ⟨b, o + 1, none⟩ from by unfold cutA; rw [if_neg hc1]; rfl] at hr1
    have KS : Hid (Calls Try.prog 35 #[.slice (some ⟨b, o + 1, none⟩) 4 (c - 1)] w5.drew fun e w' => e = .returned (.int .i64 (beN ((xs.take 5).drop 1))) ∧ Below w5.drew.heap.size w5.drew w') := small_any w5.drew hr1 rfl (HBY.out.cut 1 5)
    have zd : w5.drew.cell? ⟨w.heap.size, 0, none⟩ = some (.slice (cutA (some ⟨b, o, none⟩) 5 c) (n - 5) (c - 5)) := z0
    have fd : w5.drew.frozen? ⟨w.heap.size, 0, none⟩ = false := frozen_of_row w5 w.heap.size 0 _ _ HUg.out
    clear hr1
    go_wp2_with fail
    first
      | go_region_law ((go_simp; go_at_call 35; (with_reducible refine KS.out.mono ?_); rintro e w6 ⟨rfl, hb6⟩; have x6 : w6.cell? ⟨w.heap.size, 0, none⟩ = some (.slice (cutA (some ⟨b, o, none⟩) 5 c) (n - 5) (c - 5)) := (hb6.cell zl.out).trans zd; have f6 : w6.frozen? ⟨w.heap.size, 0, none⟩ = false := frozen_of_row w6 w.heap.size 0 _ _ ((hb6.block _ zl.out).trans HUg.out); have HB6 := Lib.hid hb6; clear hb6))
      | fail "region"
    all_goals
      have hU6 : (w6.setCell ⟨w.heap.size, 0, none⟩ (.slice (cutA (some ⟨b, o, none⟩) 5 c) (n - 5) (c - 5))).cell? ⟨w.heap.size, 0, none⟩ = some (.slice (cutA (some ⟨b, o, none⟩) 5 c) (n - 5) (c - 5)) := by simp [go_sem, x6]
      have HB7 : Hid (Below D w (w6.setCell ⟨w.heap.size, 0, none⟩ (.slice (cutA (some ⟨b, o, none⟩) 5 c) (n - 5) (c - 5)))) := Below.setCell (HBU.out.trans ((((Below.refl _ _).drew).trans HB6.out).mono (by have := zl.out; have := HDD.out; show D ≤ w5.heap.size; omega))) HDD.out _
      go_wp2_with fail
      refine bodyPost_ret (v := .tuple #[.int .i64 (beN ((xs.take 5).drop 1)), .slice none 0 0, .slice none 0 0, .slice (cutA (some ⟨b, o, none⟩) 5 c) (n - 5) (c - 5), .bool false]) (by simp [results, Try.results32, go_sem, hU6]) rfl ?_
      exact HdPost.no HN.out HB7.out
  obtain ⟨k, A1, c1, hk, rfl, ho1, hg3, hr3, hf3⟩ := hy3 k1ok
  have hkn : 5 + (k + 1) ≤ n := by have := k1ok.2.2; rw [List.length_drop, ← hk] at this; omega
  obtain ⟨R, hR⟩ : ∃ R, R = cutA (cutA (some ⟨b, o, none⟩) 5 c) (k + 1) (c - 5) := ⟨_, rfl⟩
  obtain ⟨nR, hnR⟩ : ∃ R, R = n - 5 - (k + 1) := ⟨_, rfl⟩
  obtain ⟨cR, hcR⟩ : ∃ R, R = c - 5 - (k + 1) := ⟨_, rfl⟩
  rw [← hR, ← hnR, ← hcR] at hg3 hr3
  have HRlt : Hid (∀ a, 0 < nR → R = some a → a.block < q) := by rw [hR]; exact cutA_lt (cutA_lt (m := n - 5) HQ.out (by omega)) (by omega)
  have HBX2 : Hid (Byt ((xs.drop 5).drop (k + 1))) := byt_dropL HBXl.out _
  have HK1ok := Lib.hid k1ok
  have HK := Lib.hid hk
  have HO1 := Lib.hid ho1
  have HB3 : Hid (Below w.heap.size w w3) := HBV.out.trans hb3
  have HRV3 : Hid (Rds D w3 .u8 (some ⟨b, o, none⟩) n c xs) := rds_low HRV.out HQ.out (Nat.le_trans hqD HDD.out) hb3
  have key := name08_any (q := q) (D := D) w3 hr3 HBX2.out hg3 HRlt.out (Nat.le_trans hqD HDD.out)
  have HS3 := Lib.hid hs3
  have HG3 := Lib.hid hg3
  clear hR hnR hcR ho1 hg3 hr3 hf3 hb3 hs3 hy3 hn3 hk k1ok
  go_wp2_with fail
  refine key.mono ?_
  clear key
  rintro e w5 ⟨hb5, hs5, hy5, hn5⟩
  have HB5 : Hid (Below w.heap.size w w5) := HB3.out.trans hb5
  have HRU : Hid (Rds D w5 .u8 (some ⟨b, o, none⟩) n c xs) := rds_low HRV3.out HQ.out (Nat.le_trans hqD HDD.out) hb5
  have HBU : Hid (Below D w w5) := HB5.out.mono HDD.out
  by_cases k2ok : nameOk ((xs.drop 5).drop (k + 1))
  rotate_left
  · obtain ⟨rfl, k', hk5⟩ := hn5 k2ok
    have HN : Hid (¬ startOk xs y) := fun kk => k2ok (by rw [HK.out]; exact (start_names.1 kk).2.2.2)
    have HUg : Hid (w5.heap[w.heap.size]? = some (.cells #[.slice R nR cR] 22 (0, 0))) := by rw [hk5]; exact HG3.out
    clear hb5 hs5 hy5 hn5 hk5
    have z0 : w5.cell? ⟨w.heap.size, 0, none⟩ = some (.slice R nR cR) := by rw [cell_of_row w5 w.heap.size 0 _ _ _ HUg.out]; rfl
    have zl := Lib.hid (lt_of_get HUg.out)
    have hc1 : ¬ c = 1 := by omega
    have hc5 : (5 : Int) ≤ c := by omega
    have hr1 := (HRU.out.below ((Below.refl _ _).drew)).cut2 (l := 1) (m := 5) (by omega) (by omega)
    rw [show cutA (some ⟨b, o, none⟩) 1 c = some ⟨b, o + 1, none⟩ from by unfold cutA; rw [if_neg hc1]; rfl] at hr1
    have KS : Hid (Calls Try.prog 35 #[.slice (some ⟨b, o + 1, none⟩) 4 (c - 1)] w5.drew fun e w' => e = .returned (.int .i64 (beN ((xs.take 5).drop 1))) ∧ Below w5.drew.heap.size w5.drew w') := small_any w5.drew hr1 rfl (HBY.out.cut 1 5)
    have zd : w5.drew.cell? ⟨w.heap.size, 0, none⟩ = some (.slice R nR cR) := z0
    have fd : w5.drew.frozen? ⟨w.heap.size, 0, none⟩ = false := frozen_of_row w5 w.heap.size 0 _ _ HUg.out
    clear hr1
    go_wp2_with fail
    first
      | go_region_law ((go_simp; go_at_call 35; (with_reducible refine KS.out.mono ?_); rintro e w6 ⟨rfl, hb6⟩; have x6 : w6.cell? ⟨w.heap.size, 0, none⟩ = some (.slice R nR cR) := (hb6.cell zl.out).trans zd; have f6 : w6.frozen? ⟨w.heap.size, 0, none⟩ = false := frozen_of_row w6 w.heap.size 0 _ _ ((hb6.block _ zl.out).trans HUg.out); have HB6 := Lib.hid hb6; clear hb6))
      | fail "region"
    all_goals
      have hU6 : (w6.setCell ⟨w.heap.size, 0, none⟩ (.slice R nR cR)).cell? ⟨w.heap.size, 0, none⟩ = some (.slice R nR cR) := by simp [go_sem, x6]
      have HB7 : Hid (Below D w (w6.setCell ⟨w.heap.size, 0, none⟩ (.slice R nR cR))) := Below.setCell (HBU.out.trans ((((Below.refl _ _).drew).trans HB6.out).mono (by have := zl.out; have := HDD.out; show D ≤ w5.heap.size; omega))) HDD.out _
      go_wp2_with fail
      refine bodyPost_ret (v := .tuple #[.int .i64 (beN ((xs.take 5).drop 1)), .slice A1 k c1, .slice none 0 0, .slice R nR cR, .bool false]) (by simp [results, Try.results32, go_sem, hU6]) rfl ?_
      exact HdPost.no HN.out HB7.out
  · obtain ⟨k2, A2, c2, hk2, rfl, ho2, hg5, hr5, hf5⟩ := hy5 k2ok
    have HOK : Hid (startOk xs y) := start_names.2 ⟨by omega, HYn.out.symm, HK1ok.out, by rw [← HK.out]; exact k2ok⟩
    have HK2 := Lib.hid hk2
    have HUg := Lib.hid hg5
    have HR5 := Lib.hid hr5
    have HO2 := Lib.hid ho2
    have HO1' : Hid (OwnI w5 V.heap.size .u8 (.slice A1 k c1) (cutL (xs.drop 5) 1 k)) := own_fr HO1.out (by rw [HVs.out]; exact Nat.lt_succ_self _) hf5
    obtain ⟨R2, hR2⟩ : ∃ r, r = cutA R (k2 + 1) cR := ⟨_, rfl⟩
    obtain ⟨nR2, hnR2⟩ : ∃ r, r = nR - (k2 + 1) := ⟨_, rfl⟩
    obtain ⟨cR2, hcR2⟩ : ∃ r, r = cR - (k2 + 1) := ⟨_, rfl⟩
    rw [← hR2, ← hnR2, ← hcR2] at HUg HR5
    have HR2lt : Hid (∀ a, 0 < nR2 → R2 = some a → a.block < q) := by rw [hR2]; exact cutA_lt HRlt.out (by omega)
    clear hb5 hs5 hy5 hn5 ho2 hg5 hr5 hf5 hk2 k2ok hR2 hnR2 hcR2
    have z0 : w5.cell? ⟨w.heap.size, 0, none⟩ = some (.slice R2 nR2 cR2) := by rw [cell_of_row w5 w.heap.size 0 _ _ _ HUg.out]; rfl
    have zl := Lib.hid (lt_of_get HUg.out)
    have hc1 : ¬ c = 1 := by omega
    have hc5 : (5 : Int) ≤ c := by omega
    have hr1 := (HRU.out.below ((Below.refl _ _).drew)).cut2 (l := 1) (m := 5) (by omega) (by omega)
    rw [show cutA (some ⟨b, o, none⟩) 1 c = some ⟨b, o + 1, none⟩ from by unfold cutA; rw [if_neg hc1]; rfl] at hr1
    have KS : Hid (Calls Try.prog 35 #[.slice (some ⟨b, o + 1, none⟩) 4 (c - 1)] w5.drew fun e w' => e = .returned (.int .i64 (beN ((xs.take 5).drop 1))) ∧ Below w5.drew.heap.size w5.drew w') := small_any w5.drew hr1 rfl (HBY.out.cut 1 5)
    have zd : w5.drew.cell? ⟨w.heap.size, 0, none⟩ = some (.slice R2 nR2 cR2) := z0
    have fd : w5.drew.frozen? ⟨w.heap.size, 0, none⟩ = false := frozen_of_row w5 w.heap.size 0 _ _ HUg.out
    clear hr1
    go_wp2_with fail
    first
      | go_region_law ((go_simp; go_at_call 35; (with_reducible refine KS.out.mono ?_); rintro e w6 ⟨rfl, hb6⟩; have x6 : w6.cell? ⟨w.heap.size, 0, none⟩ = some (.slice R2 nR2 cR2) := (hb6.cell zl.out).trans zd; have f6 : w6.frozen? ⟨w.heap.size, 0, none⟩ = false := frozen_of_row w6 w.heap.size 0 _ _ ((hb6.block _ zl.out).trans HUg.out); have HB6 := Lib.hid hb6; clear hb6))
      | fail "region"
    all_goals
      have hU6 : (w6.setCell ⟨w.heap.size, 0, none⟩ (.slice R2 nR2 cR2)).cell? ⟨w.heap.size, 0, none⟩ = some (.slice R2 nR2 cR2) := by simp [go_sem, x6]
      have HB7 : Hid (Below D w (w6.setCell ⟨w.heap.size, 0, none⟩ (.slice R2 nR2 cR2))) := Below.setCell (HBU.out.trans ((((Below.refl _ _).drew).trans HB6.out).mono (by have := zl.out; have := HDD.out; show D ≤ w5.heap.size; omega))) HDD.out _
      go_wp2_with fail
      refine bodyPost_ret (v := .tuple #[.int .i64 (beN ((xs.take 5).drop 1)), .slice A1 k c1, .slice A2 k2 c2, .slice R2 nR2 cR2, .bool true]) (by simp [results, Try.results32, go_sem, hU6]) rfl ?_
      have hws : w.heap.size < w3.heap.size := by have := HS3.out; have := HVs.out; omega
      have hgn : ∀ a, 0 < nR2 → R2 = some a → a.block ≠ w.heap.size := fun a p e => by have := HR2lt.out a p e; have := HDD.out; omega
      have S1 := ((HO1'.out.below (((Below.refl _ _).drew).trans HB6.out)).setBelow (p := ⟨w.heap.size, 0, none⟩) (show w.heap.size < V.heap.size from by rw [HVs.out]; exact Nat.lt_succ_self _) (.slice R2 nR2 cR2))
      have S2 := ((HO2.out.below (((Below.refl _ _).drew).trans HB6.out)).setBelow (p := ⟨w.heap.size, 0, none⟩) hws (.slice R2 nR2 cR2))
      have S3 := Rds.setIn (i := 0) (v := .slice R2 nR2 cR2) (HR5.out.below (((Below.refl _ _).drew).trans HB6.out)) hgn
      exact HdPost.some8 HOK.out HB7.out HK.out HK2.out S1.rds S2.rds S3 (own_away HO1.out (by have := HVs.out; have := HDD.out; omega)) (own_away HO2.out (by have := HDD.out; omega)) (fun a p e => .inl (HR2lt.out a p e))
end Go.Proofs.Ytomopjpfdmpgpaa
