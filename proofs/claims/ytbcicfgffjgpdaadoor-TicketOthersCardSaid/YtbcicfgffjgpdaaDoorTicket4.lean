/- ticket.Redeem at any term. No condition. Printed by gen_redeem.py. -/
import Derived.Test.YtbcicfgffjgpdaaDoorTicket3
import Derived.Test.YtbcicfgffjgpdaaDoorOpenAll
import Derived.Test.YtbcicfgffjgpdaaDoorStoreRow
set_option linter.unusedVariables false
set_option linter.unusedSimpArgs false
namespace Go.Proofs.YtbcicfgffjgpdaaDoor
open Go Go.RowKit Go.WideMaps

theorem openV_range {T : List Nd} (hw : WfT T) (key sealed : Int) (hd : ByteArray) : 0 ≤ (openV T key hd sealed).1 ∧ (openV T key hd sealed).1 ≤ 65536 := by
  cases e : getT T sealed with
  | none => rw [openV_none e]; exact ⟨by decide, by decide⟩
  | some nd =>
    by_cases k : nd.kind = 10
    · obtain ⟨k0, h0, m0, hd', rfl, e2⟩ := sealed_form hw e k
      rw [openV_at e e2]
      have hg := (hw.get e).range m0 (by simp)
      have := getT_range e
      have := hw.len
      unfold openT
      split
      · show 0 ≤ m0 ∧ m0 ≤ 65536
        omega
      · exact ⟨by decide, by decide⟩
    · rw [openV_kind e k]; exact ⟨by decide, by decide⟩
theorem numsL_byt (s : ByteArray) : Byt (numsL s) := by
  intro x hx
  rw [show numsL s = s.data.toList.map fun x => (x.toNat : Int) from rfl] at hx
  obtain ⟨y, -, rfl⟩ := List.mem_map.1 hx
  have := y.toNat_lt
  omega
theorem readT_range {xs : List Int} {a b c : Int} (h : readT xs = some (a, b, c)) : (0 ≤ a ∧ a ≤ 4611686018427387903) ∧ (0 ≤ b ∧ b ≤ 4611686018427387903) ∧ (0 ≤ c ∧ c ≤ 4611686018427387903) := by
  unfold readT at h
  split at h
  · rename_i k
    simp only [Option.some.injEq, Prod.mk.injEq] at h
    obtain ⟨rfl, rfl, rfl⟩ := h
    obtain ⟨k1, k2, k3, -⟩ := k
    have f : ∀ ys : List Int, (readV ys).2.2 = 0 → 0 ≤ (readV ys).1 ∧ (readV ys).1 ≤ 4611686018427387903 := fun ys q => by
      obtain ⟨-, q2, q3⟩ := rd_ok q
      exact sizeV_pos.1 (by omega)
    exact ⟨f _ k1, f _ k2, f _ k3⟩
  · cases h
/-- What a ticket is redeemed to: its fields and an error's number. -/
def timeV (r : Option (Int × Int × Int)) (s now : Int) : (Int × Int × Int × Int) × Int := match r with
  | some (a, b, l) => if now < b ∨ l < now - b then ((0, 0, 0, 0), 9) else ((a, b, l, s), 0)
  | none => ((0, 0, 0, 0), 14)
def rowV (T : List Nd) (c now : Int) : (Int × Int × Int × Int) × Int := match getT T c with
  | some nd => if nd.kind = 3 ∧ nd.parts.length = 2 then timeV (if (nodeT T (nth nd.parts 0)).kind = 1 then readT (numsL (nodeT T (nth nd.parts 0)).text) else none) (nth nd.parts 1) now else ((0, 0, 0, 0), 14)
  | none => ((0, 0, 0, 0), 14)
def redeemV (T : List Nd) (key h now : Int) : (Int × Int × Int × Int) × Int := rowV T (openV T key ticketS h).1 now
theorem rowV_none {T : List Nd} {c now : Int} (h : getT T c = none) : rowV T c now = ((0, 0, 0, 0), 14) := by unfold rowV; rw [h]
theorem rowV_bad {T : List Nd} {c now : Int} {nd : Nd} (h : getT T c = some nd) (k : ¬ (nd.kind = 3 ∧ nd.parts.length = 2)) : rowV T c now = ((0, 0, 0, 0), 14) := by unfold rowV; rw [h]; exact if_neg k
theorem rowV_row {T : List Nd} {c now p0 p1 : Int} {tx : ByteArray} (h : getT T c = some ⟨3, tx, [p0, p1]⟩) : rowV T c now = timeV (if (nodeT T p0).kind = 1 then readT (numsL (nodeT T p0).text) else none) p1 now := by
  unfold rowV; rw [h]; exact if_pos ⟨rfl, rfl⟩
def RedeemPost (r : (Int × Int × Int × Int) × Int) (w : World) (e : Ending) (w' : World) : Prop :=
  e = .returned (.tuple #[.agg #[.int .i64 r.1.1, .int .i64 r.1.2.1, .int .i64 r.1.2.2.1, .int .i64 r.1.2.2.2], .int .i64 r.2]) ∧ Below w.heap.size w w'
theorem tk_size : (Tryd.prog.info? 29).map (·.size) = some 4 := by kernel_rfl

set_option maxHeartbeats 6400000 in
set_option maxRecDepth 100000 in
theorem redeem_any {B tb : Nat} {T : List Nd} (key h now : Int) (w : World) (ht : IsTab B w tb T) (hh : Fit h) (hnow : Fit now) :
    Calls Tryd.prog 16 #[.pointer (some ⟨tb, 0, none⟩), .int .i64 key, .int .i64 h, .int .i64 now] w (RedeemPost (redeemV T key h now) w) := by
  obtain ⟨R, hR⟩ : ∃ R, R = redeemV T key h now := ⟨_, rfl⟩
  rw [← hR]
  have HR := Lib.hid hR
  clear hR
  have HN := Lib.hid hnow
  have HWf := Lib.hid ht.1
  obtain ⟨W0, hW0⟩ : ∃ W, W = w.alloc (.cells #[.int .i64 0, .int .i64 0, .int .i64 0, .int .i64 0] 29) := ⟨_, rfl⟩
  have HB0 : Hid (Below w.heap.size w W0) := by rw [hW0]; exact below_new _
  have HG0 : Hid (TkAt W0 w.heap.size 0 0 0 0) := by rw [hW0]; exact heap_alloc_new w _
  have HS0 : Hid (W0.heap.size = w.heap.size + 1) := by rw [hW0]; show _ = _; simp
  have hcv := run_const_bytes W0 #[.int .u8 116, .int .u8 105, .int .u8 99, .int .u8 107, .int .u8 101, .int .u8 116] 6 6
  rw [HS0.out] at hcv
  rw [hW0] at hcv
  have hconv := Lib.hid hcv
  clear hcv
  obtain ⟨V, hW⟩ : ∃ V, V = (w.alloc (.cells #[.int .i64 0, .int .i64 0, .int .i64 0, .int .i64 0] 29)).alloc (.cells #[.int .u8 116, .int .u8 105, .int .u8 99, .int .u8 107, .int .u8 101, .int .u8 116] 5 (6, 7)) := ⟨_, rfl⟩
  have hr : Rds B V .u8 (some ⟨w.heap.size + 1, 0, none⟩) 6 6 ticketL := by
    rw [hW, ← hW0]
    exact rds_marked (xs := ticketL) (t := 5) (6, 7) HS0.out (by decide) _ rfl 6 rfl (by decide)
  have hBV : Below W0.heap.size W0 V := by rw [hW, ← hW0]; exact below_new _
  have HBV := Lib.hid (below_next HB0.out HB0.out.size hBV)
  have HTV := Lib.hid ((ht.below HB0.out).below hBV)
  have HGV := Lib.hid (HG0.out.later hBV HG0.out.lt)
  have key1 := open_all key h (some ⟨w.heap.size + 1, 0, none⟩) 6 6 ticketL V HTV.out hr hh
  rw [ticket_str] at key1
  clear ht hh hnow hr hBV HG0 hW0 HS0 HB0
  go_enter Tryd.func16, Tryd.ntmps16
  go_wp2_with ((with_reducible show wpList _ _ _ (Oper.mk _ (Op.convert 31 31 _) _ _ _ _ :: _) _ _); refine wp_convert rfl _ _ _ rfl rfl hconv.out ?_)
  rw [← hW]
  clear hW hconv
  refine key1.mono ?_
  clear key1
  rintro e w2 ⟨rfl, hb⟩
  obtain ⟨c, cok, hc⟩ : ∃ c ok, openV T key ticketS h = (c, ok) := ⟨_, _, rfl⟩
  have HC : Hid (R = rowV T c now) := by show _ = _; rw [HR.out]; unfold redeemV; rw [hc]
  have hcr := openV_range HWf.out key h ticketS
  rw [hc] at hcr ⊢
  simp only at hcr ⊢
  have HT2 := Lib.hid (HTV.out.below hb)
  have HG2 := Lib.hid (HGV.out.later hb HGV.out.lt)
  have HB2 := Lib.hid (below_next HBV.out HBV.out.size hb)
  have key1 := look_any c w2 HT2.out (by omega) (by omega)
  clear hc hb HTV HGV HBV HR
  go_wp2_with fail
  refine key1.mono ?_
  clear key1
  rintro e v3 ⟨P3, d3, rfl, ho3, hb3⟩
  have HG3 := Lib.hid (HG2.out.later hb3 HG2.out.lt)
  have lG3 : w.heap.size < v3.heap.size := HG3.out.lt
  cases hg : getT T c with
  | none =>
    have HE : Hid (R = ((0, 0, 0, 0), 14)) := by show _ = _; rw [HC.out]; exact rowV_none hg
    rw [show nodeT T c = ⟨0, ByteArray.empty, []⟩ from by unfold nodeT; rw [hg]; rfl]
    obtain ⟨w3, hw3⟩ : ∃ w3, w3 = v3.alloc (.cells #[.int .i64 0, .string ByteArray.empty, .slice P3 0 d3] 38) := ⟨_, rfl⟩
    have hbn : Below v3.heap.size v3 w3 := by rw [hw3]; exact below_new _
    have HG4 := Lib.hid (HG3.out.later hbn HG3.out.lt)
    have HB4 := Lib.hid (below_next HB2.out HB2.out.size (below_next hb3 hb3.size hbn))
    clear ho3 hb3 hbn hg hcr
    go_wp2_with ((with_reducible show wpList _ _ _ (Oper.mk _ (Op.store 29 _ _) _ _ _ _ :: _) _ _); (rw [← hw3]); (refine wp_store_row rfl rfl _ _ _ rfl w.heap.size _ _ 29 rfl rfl tk_size HG4.out rfl (by simp [Value.oneCell']) ?_))
    obtain ⟨u, hu⟩ : ∃ u, u = World.setRow w3 w.heap.size #[.int .i64 0, .int .i64 0, .int .i64 0, .int .i64 0] := ⟨_, rfl⟩
    rw [← hu]
    have hux : TkAt u w.heap.size 0 0 0 0 := by rw [hu]; exact setRow_heap _ w.heap.size _ _ _ _ HG4.out
    have HBu : Hid (Below w.heap.size w u) := by rw [hu]; exact below_setRow HB4.out (Nat.le_refl _) _
    have z0 := hux.x0
    have z1 := hux.x1
    have z2 := hux.x2
    have z3 := hux.x3
    clear hu hux
    refine bodyPost_ret (v := .tuple #[.agg #[.int .i64 0, .int .i64 0, .int .i64 0, .int .i64 0], .int .i64 14]) (by simp [results, Tryd.results16, go_sem, z0, z1, z2, z3]) rfl ?_
    rw [HE.out]
    exact ⟨rfl, HBu.out⟩
  | some nd =>
    rw [show nodeT T c = nd from by unfold nodeT; rw [hg]; rfl] at ho3 ⊢
    obtain ⟨w3, hw3⟩ : ∃ w3, w3 = v3.alloc (.cells #[.int .i64 nd.kind, .string nd.text, .slice P3 nd.parts.length d3] 38) := ⟨_, rfl⟩
    have hbn : Below v3.heap.size v3 w3 := by rw [hw3]; exact below_new _
    have HG4 := Lib.hid (HG3.out.later hbn HG3.out.lt)
    have HB4 := Lib.hid (below_next HB2.out HB2.out.size (below_next hb3 hb3.size hbn))
    by_cases hk : nd.kind = 3
    rotate_left
    · have HE : Hid (R = ((0, 0, 0, 0), 14)) := by show _ = _; rw [HC.out]; exact rowV_bad hg fun q => hk q.1
      have hkb : (nd.kind != 3) = true := by simp [hk]
      clear ho3 hb3 hbn hg hcr hk
      go_wp2_with ((with_reducible show wpList _ _ _ (Oper.mk _ (Op.store 29 _ _) _ _ _ _ :: _) _ _); (rw [← hw3]); (refine wp_store_row rfl rfl _ _ _ rfl w.heap.size _ _ 29 rfl rfl tk_size HG4.out rfl (by simp [Value.oneCell']) ?_))
      obtain ⟨u, hu⟩ : ∃ u, u = World.setRow w3 w.heap.size #[.int .i64 0, .int .i64 0, .int .i64 0, .int .i64 0] := ⟨_, rfl⟩
      rw [← hu]
      have hux : TkAt u w.heap.size 0 0 0 0 := by rw [hu]; exact setRow_heap _ w.heap.size _ _ _ _ HG4.out
      have HBu : Hid (Below w.heap.size w u) := by rw [hu]; exact below_setRow HB4.out (Nat.le_refl _) _
      have z0 := hux.x0
      have z1 := hux.x1
      have z2 := hux.x2
      have z3 := hux.x3
      clear hu hux
      refine bodyPost_ret (v := .tuple #[.agg #[.int .i64 0, .int .i64 0, .int .i64 0, .int .i64 0], .int .i64 14]) (by simp [results, Tryd.results16, go_sem, z0, z1, z2, z3]) rfl ?_
      rw [HE.out]
      exact ⟨rfl, HBu.out⟩
    have hkb : (nd.kind != 3) = false := by simp [hk]
    by_cases hl : nd.parts.length = 2
    rotate_left
    · have HE : Hid (R = ((0, 0, 0, 0), 14)) := by show _ = _; rw [HC.out]; exact rowV_bad hg fun q => hl q.2
      have hlb : ((nd.parts.length : Int) != 2) = true := by rw [bne_iff_ne]; omega
      clear ho3 hb3 hbn hg hcr hk hl
      go_wp2_with ((with_reducible show wpList _ _ _ (Oper.mk _ (Op.store 29 _ _) _ _ _ _ :: _) _ _); (rw [← hw3]); (refine wp_store_row rfl rfl _ _ _ rfl w.heap.size _ _ 29 rfl rfl tk_size HG4.out rfl (by simp [Value.oneCell']) ?_))
      obtain ⟨u, hu⟩ : ∃ u, u = World.setRow w3 w.heap.size #[.int .i64 0, .int .i64 0, .int .i64 0, .int .i64 0] := ⟨_, rfl⟩
      rw [← hu]
      have hux : TkAt u w.heap.size 0 0 0 0 := by rw [hu]; exact setRow_heap _ w.heap.size _ _ _ _ HG4.out
      have HBu : Hid (Below w.heap.size w u) := by rw [hu]; exact below_setRow HB4.out (Nat.le_refl _) _
      have z0 := hux.x0
      have z1 := hux.x1
      have z2 := hux.x2
      have z3 := hux.x3
      clear hu hux
      refine bodyPost_ret (v := .tuple #[.agg #[.int .i64 0, .int .i64 0, .int .i64 0, .int .i64 0], .int .i64 14]) (by simp [results, Tryd.results16, go_sem, z0, z1, z2, z3]) rfl ?_
      rw [HE.out]
      exact ⟨rfl, HBu.out⟩
    obtain ⟨kd, tx, ps⟩ := nd
    simp only at hk hl ho3 hkb hw3 ⊢
    subst hk
    match ps, hl with
    | [p0, p1], _ =>
      simp only [List.length_cons, List.length_nil, Nat.zero_add, Nat.reduceAdd] at ho3 hw3 ⊢
      obtain ⟨gp, rfl, lgp, a0, a1⟩ := two_parts ho3
      have HC2 : Hid (R = timeV (if (nodeT T p0).kind = 1 then readT (numsL (nodeT T p0).text) else none) p1 now) := by show _ = _; rw [HC.out]; exact rowV_row hg
      have hgood := HWf.out.get hg
      have hr0 := hgood.range p0 (by simp)
      have hr1 := hgood.range p1 (by simp)
      have hcl := getT_range hg
      have hTl := HWf.out.len
      have HFp : Hid (Fit p0) := ⟨by omega, by omega⟩
      have b0 := later_cell hbn a0 lgp
      have b1 := later_cell hbn a1 lgp
      have b2 : w3.cell? ⟨v3.heap.size, 2, none⟩ = some (.slice (some ⟨gp, 0, none⟩) 2 d3) := by rw [hw3]; simp [go_sem]
      have lv3 : v3.heap.size < w3.heap.size := by rw [hw3]; simp
      have lgp3 : gp < w3.heap.size := by omega
      have HT4 := Lib.hid (HT2.out.below (below_next hb3 hb3.size hbn))
      have key1 := look_any p0 w3 HT4.out HFp.out.1 HFp.out.2
      clear ho3 hb3 hbn hg hcr hgood hr0 hr1 hcl hTl HC HB2 HT2 HG2 HG3 lG3 hkb
      go_wp2_with fail
      rw [← hw3]
      clear hw3 a0 a1
      refine key1.mono ?_
      clear key1
      rintro e v4 ⟨P4, d4, rfl, ho4, hb4⟩
      obtain ⟨tn, htn⟩ : ∃ n, n = nodeT T p0 := ⟨_, rfl⟩
      rw [← htn] at ho4 ⊢
      have HC3 : Hid (R = timeV (if tn.kind = 1 then readT (numsL tn.text) else none) p1 now) := by show _ = _; rw [HC2.out, htn]
      have htx : tn.text.size ≤ 2048 := by
        rw [htn]
        unfold nodeT
        cases e : getT T p0 with
        | none => exact Nat.zero_le _
        | some n => exact (HWf.out.get e).text
      obtain ⟨w4, hw4⟩ : ∃ w4, w4 = v4.alloc (.cells #[.int .i64 tn.kind, .string tn.text, .slice P4 tn.parts.length d4] 38) := ⟨_, rfl⟩
      have hbn : Below v4.heap.size v4 w4 := by rw [hw4]; exact below_new _
      have hb5 := below_next hb4 hb4.size hbn
      replace b0 := later_cell hb5 b0 lgp3
      replace b1 := later_cell hb5 b1 lgp3
      replace b2 := later_cell hb5 b2 lv3
      have e0 : w4.cell? ⟨v4.heap.size, 0, none⟩ = some (.int .i64 tn.kind) := by rw [hw4]; simp [go_sem]
      have e1 : w4.cell? ⟨v4.heap.size, 1, none⟩ = some (.string tn.text) := by rw [hw4]; simp [go_sem]
      have lv4 : v4.heap.size < w4.heap.size := by rw [hw4]; simp
      have l3 : v3.heap.size < w4.heap.size := by have := hb5.size; omega
      have lg : gp < w4.heap.size := by have := hb5.size; omega
      have HG5 := Lib.hid (HG4.out.later hb5 HG4.out.lt)
      have HB5 := Lib.hid (below_next HB4.out HB4.out.size hb5)
      clear htn ho4 hb4 hbn hb5 HC2 HG4 HB4 HT4 lv3 lgp3 HFp
      go_wp2_with ((with_reducible show wpList _ _ _ (Oper.mk _ (Op.convert 9 31 _) _ _ _ _ :: _) _ _); refine wp_str_bytes rfl _ rfl tn.text rfl (by omega) ?_)
      intro cb w5 hrb hb
      have hS4 : v4.heap.size + 1 = w4.heap.size := by rw [hw4]; simp
      rw [← hw4, hS4] at hb
      clear hS4
      replace b0 := later_cell hb b0 lg
      replace b1 := later_cell hb b1 lg
      replace b2 := later_cell hb b2 l3
      replace e0 := later_cell hb e0 lv4
      have hs5 := hb.size
      have HG6 := Lib.hid (HG5.out.later hb HG5.out.lt)
      have HB6 := Lib.hid (below_next HB5.out HB5.out.size hb)
      have key1 := nums_any _ _ _ _ w5 (hrb B) (numsL_byt tn.text) (by omega)
      clear hrb hb HG5 HB5 hw4 e1
      go_wp2_with fail
      refine key1.mono ?_
      clear key1
      rintro e v6 ⟨na, nb, nc, ok, rfl, hyes, hno, hb⟩
      replace b1 := later_cell hb b1 (by show gp < _; omega)
      replace b2 := later_cell hb b2 (by show v3.heap.size < _; omega)
      replace e0 := later_cell hb e0 (by show v4.heap.size < _; omega)
      have hs6 := hb.size
      have HG7 := Lib.hid (HG6.out.later hb HG6.out.lt)
      have HB7 := Lib.hid (below_next HB6.out HB6.out.size hb)
      have HY := Lib.hid hyes
      have HNo := Lib.hid hno
      have q3 : v3.heap.size < v6.heap.size := by omega
      have q4 : v4.heap.size < v6.heap.size := by omega
      have qg : gp < v6.heap.size := by omega
      clear hb HG6 HB6 b0 hyes hno hs5 hs6 l3 lg lv4
      obtain ⟨w6, hw6⟩ : ∃ w6, w6 = v6.alloc (.cells #[.int .i64 na, .int .i64 nb, .int .i64 nc] 69) := ⟨_, rfl⟩
      have hbn : Below v6.heap.size v6 w6 := by rw [hw6]; exact below_new _
      have g0 : w6.cell? ⟨v6.heap.size, 0, none⟩ = some (.int .i64 na) := by rw [hw6]; simp [go_sem]
      have g1 : w6.cell? ⟨v6.heap.size, 1, none⟩ = some (.int .i64 nb) := by rw [hw6]; simp [go_sem]
      have g2 : w6.cell? ⟨v6.heap.size, 2, none⟩ = some (.int .i64 nc) := by rw [hw6]; simp [go_sem]
      have l6 : v6.heap.size < w6.heap.size := by rw [hw6]; simp
      have b1' := later_cell hbn b1 qg
      have b2' := later_cell hbn b2 q3
      have e0' := later_cell hbn e0 q4
      have HG8 := Lib.hid (HG7.out.later hbn HG7.out.lt)
      have HB8 := Lib.hid (below_next HB7.out HB7.out.size hbn)
      have r3 : v3.heap.size < w6.heap.size := by omega
      have r4 : v4.heap.size < w6.heap.size := by omega
      have rg : gp < w6.heap.size := by omega
      clear hbn HG7 HB7
      go_wp2_with fail
      rw [← hw6]
      clear hw6 b1 b2 e0 q3 q4 qg
      go_region_held3 (fun w' => (w'.cell? ⟨v6.heap.size, 0, none⟩ = some (.int .i64 na) ∧ w'.cell? ⟨v6.heap.size, 1, none⟩ = some (.int .i64 nb) ∧ w'.cell? ⟨v6.heap.size, 2, none⟩ = some (.int .i64 nc)) ∧ w'.cell? ⟨v3.heap.size, 2, none⟩ = some (.slice (some ⟨gp, 0, none⟩) 2 d3) ∧ w'.cell? ⟨gp, 1, none⟩ = some (.int .i64 p1)) (first | go_keep) ((first | fail))
      rename_i hHeld
      clear hHeld
      obtain ⟨w7, hw7⟩ : ∃ w7, w7 = (w6.alloc (.cells #[.int .i64 na, .int .i64 nb, .int .i64 nc, .int .i64 p1] 29)).drew := ⟨_, rfl⟩
      have hbn : Below w6.heap.size w6 w7 := by rw [hw7]; exact (below_new _).drew
      have HX7 : Hid (TkAt w7 w6.heap.size na nb nc p1) := by rw [hw7]; exact heap_alloc_new w6 _
      have HG9 := Lib.hid (HG8.out.later hbn HG8.out.lt)
      have HB9 := Lib.hid (below_next HB8.out HB8.out.size hbn)
      have k0 := later_cell hbn e0' r4
      have y0 := HX7.out.x0
      have y1 := HX7.out.x1
      have y2 := HX7.out.x2
      have y3 := HX7.out.x3
      rw [← hw7]
      clear hw7 hbn g0 g1 g2 l6 b1' b2' e0' HG8 HB8 r3 r4 rg htx hl
      cases ok with
      | false =>
        have HE : Hid (R = ((0, 0, 0, 0), 14)) := by
          show _ = _
          rw [HC3.out, HNo.out rfl]
          split <;> rfl
        clear HY HNo
        go_wp2_with ((with_reducible show wpList _ _ _ (Oper.mk _ (Op.store 29 _ _) _ _ _ _ :: _) _ _); (refine wp_store_row rfl rfl _ _ _ rfl w.heap.size _ _ 29 rfl rfl tk_size HG9.out rfl (by simp [Value.oneCell']) ?_))
        obtain ⟨u, hu⟩ : ∃ u, u = World.setRow w7 w.heap.size #[.int .i64 0, .int .i64 0, .int .i64 0, .int .i64 0] := ⟨_, rfl⟩
        rw [← hu]
        have hux : TkAt u w.heap.size 0 0 0 0 := by rw [hu]; exact setRow_heap _ w.heap.size _ _ _ _ HG9.out
        have HBu : Hid (Below w.heap.size w u) := by rw [hu]; exact below_setRow HB9.out (Nat.le_refl _) _
        have z0 := hux.x0
        have z1 := hux.x1
        have z2 := hux.x2
        have z3 := hux.x3
        clear hu hux
        refine bodyPost_ret (v := .tuple #[.agg #[.int .i64 0, .int .i64 0, .int .i64 0, .int .i64 0], .int .i64 14]) (by simp [results, Tryd.results16, go_sem, z0, z1, z2, z3]) rfl ?_
        rw [HE.out]
        exact ⟨rfl, HBu.out⟩
      | true =>
        have HV := Lib.hid (HY.out rfl)
        clear HY HNo
        by_cases hk1 : tn.kind = 1
        rotate_left
        · have HE : Hid (R = ((0, 0, 0, 0), 14)) := by show _ = _; rw [HC3.out, if_neg hk1]; rfl
          have hkb : (tn.kind != 1) = true := by simp [hk1]
          clear hk1
          go_wp2_with ((with_reducible show wpList _ _ _ (Oper.mk _ (Op.store 29 _ _) _ _ _ _ :: _) _ _); (refine wp_store_row rfl rfl _ _ _ rfl w.heap.size _ _ 29 rfl rfl tk_size HG9.out rfl (by simp [Value.oneCell']) ?_))
          obtain ⟨u, hu⟩ : ∃ u, u = World.setRow w7 w.heap.size #[.int .i64 0, .int .i64 0, .int .i64 0, .int .i64 0] := ⟨_, rfl⟩
          rw [← hu]
          have hux : TkAt u w.heap.size 0 0 0 0 := by rw [hu]; exact setRow_heap _ w.heap.size _ _ _ _ HG9.out
          have HBu : Hid (Below w.heap.size w u) := by rw [hu]; exact below_setRow HB9.out (Nat.le_refl _) _
          have z0 := hux.x0
          have z1 := hux.x1
          have z2 := hux.x2
          have z3 := hux.x3
          clear hu hux
          refine bodyPost_ret (v := .tuple #[.agg #[.int .i64 0, .int .i64 0, .int .i64 0, .int .i64 0], .int .i64 14]) (by simp [results, Tryd.results16, go_sem, z0, z1, z2, z3]) rfl ?_
          rw [HE.out]
          exact ⟨rfl, HBu.out⟩
        have hkb : (tn.kind != 1) = false := by simp [hk1]
        have HC4 : Hid (R = timeV (some (na, nb, nc)) p1 now) := by show _ = _; rw [HC3.out, if_pos hk1, HV.out]
        have hrg := readT_range HV.out
        have hb0 := hrg.2.1.1
        have hb1 := hrg.2.1.2
        have hn1 := HN.out.2
        clear hk1 hrg HC3
        by_cases ht1 : now < nb
        · have HE : Hid (R = ((0, 0, 0, 0), 9)) := by show _ = _; rw [HC4.out]; exact if_pos (.inl ht1)
          go_wp2_with ((with_reducible show wpList _ _ _ (Oper.mk _ (Op.store 29 _ _) _ _ _ _ :: _) _ _); (refine wp_store_row rfl rfl _ _ _ rfl w.heap.size _ _ 29 rfl rfl tk_size HG9.out rfl (by simp [Value.oneCell']) ?_))
          obtain ⟨u, hu⟩ : ∃ u, u = World.setRow w7 w.heap.size #[.int .i64 0, .int .i64 0, .int .i64 0, .int .i64 0] := ⟨_, rfl⟩
          rw [← hu]
          have hux : TkAt u w.heap.size 0 0 0 0 := by rw [hu]; exact setRow_heap _ w.heap.size _ _ _ _ HG9.out
          have HBu : Hid (Below w.heap.size w u) := by rw [hu]; exact below_setRow HB9.out (Nat.le_refl _) _
          have z0 := hux.x0
          have z1 := hux.x1
          have z2 := hux.x2
          have z3 := hux.x3
          clear hu hux
          refine bodyPost_ret (v := .tuple #[.agg #[.int .i64 0, .int .i64 0, .int .i64 0, .int .i64 0], .int .i64 9]) (by simp [results, Tryd.results16, go_sem, z0, z1, z2, z3]) rfl ?_
          rw [HE.out]
          exact ⟨rfl, HBu.out⟩
        have hsub : IntKind.i64.wrap (now - nb) = now - nb := by rw [IntKind.wrap_i64]; omega
        by_cases ht2 : nc < now - nb
        · have HE : Hid (R = ((0, 0, 0, 0), 9)) := by show _ = _; rw [HC4.out]; exact if_pos (.inr ht2)
          go_wp2_with ((with_reducible show wpList _ _ _ (Oper.mk _ (Op.store 29 _ _) _ _ _ _ :: _) _ _); (refine wp_store_row rfl rfl _ _ _ rfl w.heap.size _ _ 29 rfl rfl tk_size HG9.out rfl (by simp [Value.oneCell']) ?_))
          obtain ⟨u, hu⟩ : ∃ u, u = World.setRow w7 w.heap.size #[.int .i64 0, .int .i64 0, .int .i64 0, .int .i64 0] := ⟨_, rfl⟩
          rw [← hu]
          have hux : TkAt u w.heap.size 0 0 0 0 := by rw [hu]; exact setRow_heap _ w.heap.size _ _ _ _ HG9.out
          have HBu : Hid (Below w.heap.size w u) := by rw [hu]; exact below_setRow HB9.out (Nat.le_refl _) _
          have z0 := hux.x0
          have z1 := hux.x1
          have z2 := hux.x2
          have z3 := hux.x3
          clear hu hux
          refine bodyPost_ret (v := .tuple #[.agg #[.int .i64 0, .int .i64 0, .int .i64 0, .int .i64 0], .int .i64 9]) (by simp [results, Tryd.results16, go_sem, z0, z1, z2, z3]) rfl ?_
          rw [HE.out]
          exact ⟨rfl, HBu.out⟩
        have HE : Hid (R = ((na, nb, nc, p1), 0)) := by show _ = _; rw [HC4.out]; exact if_neg (by omega)
        go_wp2_with ((with_reducible show wpList _ _ _ (Oper.mk _ (Op.store 29 _ _) _ _ _ _ :: _) _ _); (refine wp_store_row rfl rfl _ _ _ rfl w.heap.size _ _ 29 rfl rfl tk_size HG9.out rfl (by simp [Value.oneCell']) ?_))
        obtain ⟨u, hu⟩ : ∃ u, u = World.setRow w7 w.heap.size #[.int .i64 na, .int .i64 nb, .int .i64 nc, .int .i64 p1] := ⟨_, rfl⟩
        rw [← hu]
        have hux : TkAt u w.heap.size na nb nc p1 := by rw [hu]; exact setRow_heap _ w.heap.size _ _ _ _ HG9.out
        have HBu : Hid (Below w.heap.size w u) := by rw [hu]; exact below_setRow HB9.out (Nat.le_refl _) _
        have z0 := hux.x0
        have z1 := hux.x1
        have z2 := hux.x2
        have z3 := hux.x3
        clear hu hux
        refine bodyPost_ret (v := .tuple #[.agg #[.int .i64 na, .int .i64 nb, .int .i64 nc, .int .i64 p1], .int .i64 0]) (by simp [results, Tryd.results16, go_sem, z0, z1, z2, z3]) rfl ?_
        rw [HE.out]
        exact ⟨rfl, HBu.out⟩

end Go.Proofs.YtbcicfgffjgpdaaDoor
