/- The program's layer 8: ReadRetry. No condition. -/
import Derived.Test.YtomopjpfdmpgpaaHeaded
import Derived.Test.YtomopjpfdmpgpaaSpec
set_option linter.unusedVariables false
set_option linter.unusedSimpArgs false
namespace Go.Proofs.Ytomopjpfdmpgpaa
open Go Go.RowKit

/-- The program's error number. -/
def errOf (b : Bool) : Value := .int .i64 (bif b then 0 else 3)
theorem retry8_size : (Try.prog.info? 34).map (·.size) = some 5 := by kernel_rfl
set_option maxHeartbeats 6400000 in
set_option maxRecDepth 100000 in
theorem readRetry8_any {B n c : Nat} {A : Option Addr} {xs : List Int} (w : World) (h : Rds B w .u8 A n c xs) (hb : Byt xs) :
    Calls Try.prog 8 #[.slice A n c] w (RRPost (readR xs) (errOf (readR xs).isSome) w) := by
  obtain ⟨W, hW⟩ : ∃ W, W = w.alloc (.cells #[.int .i64 0, .slice none 0 0, .slice none 0 0, .int .i64 0, .int .i64 0] 34) := ⟨_, rfl⟩
  have HBW : Hid (Below w.heap.size w W) := by rw [hW]; exact below_new _
  have HSW : Hid (W.heap.size = w.heap.size + 1) := by rw [hW]; show _ = _; simp
  have HXW : Hid (W.heap[w.heap.size]? = some (.cells #[.int .i64 0, .slice none 0 0, .slice none 0 0, .int .i64 0, .int .i64 0] 34 (0, 0))) := by rw [hW]; exact heap_alloc_new w _
  have key := headed_any (q := w.heap.size) 240 (by decide) (by decide) W (Nat.le_refl _) (h.below (by rw [hW]; exact below_new _)).top (fun a p e => (h.safe p a e).1) HBW.out.size hb
  have HBY := Lib.hid hb
  clear h hb
  go_enter Try.func8, Try.ntmps8
  go_wp2_with fail
  rw [← hW]
  refine key.mono ?_
  clear key hW
  rintro e w1 ⟨hb1, hp⟩
  have HB1 := Lib.hid hb1
  have HX1 : Hid (w1.heap[w.heap.size]? = some (.cells #[.int .i64 0, .slice none 0 0, .slice none 0 0, .int .i64 0, .int .i64 0] 34 (0, 0))) := (hb1.block _ (lt_of_get HXW.out)).trans HXW.out
  have HBz : Hid (Below w.heap.size w w1) := below_next HBW.out HBW.out.size hb1
  clear hb1
  cases hst : startP xs 240 with
  | none =>
    rw [hst] at hp
    obtain ⟨v, A1, n1, c1, A2, n2, c2, A3, n3, c3, rfl⟩ := hp
    have HL : Hid (readR xs = none) := by show _ = _; unfold readR; rw [hst]
    clear hst
    go_wp2_with ((with_reducible show wpList _ _ _ (Oper.mk _ (Op.store 34 (.tmp 2) _) _ _ _ _ :: _) _ _); (refine wp_store_row rfl rfl _ _ _ rfl w.heap.size _ _ 34 rfl rfl retry8_size HX1.out rfl (by simp [Value.oneCell']) ?_))
    obtain ⟨u, hu⟩ : ∃ u, u = World.setRow w1 w.heap.size #[.int .i64 0, .slice none 0 0, .slice none 0 0, .int .i64 0, .int .i64 0] := ⟨_, rfl⟩
    rw [← hu]
    have hux : u.heap[w.heap.size]? = some (.cells #[.int .i64 0, .slice none 0 0, .slice none 0 0, .int .i64 0, .int .i64 0] 34 (0, 0)) := by rw [hu]; exact setRow_heap _ w.heap.size _ _ _ _ HX1.out
    have HBu : Hid (Below w.heap.size w u) := by rw [hu]; exact below_setRow HBz.out (Nat.le_refl _) _
    have z0 := cell_of_row u w.heap.size 0 _ _ _ hux
    have z1 := cell_of_row u w.heap.size 1 _ _ _ hux
    have z2 := cell_of_row u w.heap.size 2 _ _ _ hux
    have z3 := cell_of_row u w.heap.size 3 _ _ _ hux
    have z4 := cell_of_row u w.heap.size 4 _ _ _ hux
    clear hu hux
    refine bodyPost_ret (v := .tuple #[.agg #[.int .i64 0, .slice none 0 0, .slice none 0 0, .int .i64 0, .int .i64 0], .int .i64 3]) (by simp [results, Try.results8, go_sem, z0, z1, z2, z3, z4]) rfl ?_
    rw [HL.out]
    exact RRPost.none (V := .int .i64 3) HBu.out
  | some hd =>
    rw [hst] at hp
    obtain ⟨A1, c1, A2, c2, A3, c3, rfl, r1, r2, r3, w1', w2', -⟩ := hp
    obtain ⟨v, ts, fr, rs⟩ := hd
    obtain ⟨-, -, hbr, hv0, hv1, -, -⟩ := startP_some hst HBY.out
    have HBR : Hid (Byt rs) := hbr
    simp only at r1 r2 r3 hv0 hv1 ⊢
    have HLn : Hid (¬ retryOk ⟨v, ts, fr, rs⟩ → readR xs = none) := by show _ → _; intro q; unfold readR; rw [hst]; simp only; rw [if_neg q]
    have HLy : Hid (retryOk ⟨v, ts, fr, rs⟩ → readR xs = some ⟨v, ts, fr, numOf (rs.take 4), numOf (rs.drop 4)⟩) := by show _ → _; intro q; unfold readR; rw [hst]; simp only; rw [if_pos q]
    clear hst hbr
    obtain ⟨m, hm⟩ : ∃ m, rs.length = m := ⟨_, rfl⟩
    obtain ⟨n1, hn1⟩ : ∃ m, ts.length = m := ⟨_, rfl⟩
    obtain ⟨n2, hn2⟩ : ∃ m, fr.length = m := ⟨_, rfl⟩
    rw [hn1] at r1
    rw [hn2] at r2
    rw [hm] at r3
    have AW1 := Lib.hid w1'
    have AW2 := Lib.hid w2'
    clear w1' w2'
    simp only [hm, hn1, hn2]
    have HM := Lib.hid hm
    have HN1 := Lib.hid hn1
    have HN2 := Lib.hid hn2
    have R1 := Lib.hid r1
    have R2 := Lib.hid r2
    have R3 := Lib.hid r3
    have hmx := r3.max
    have hmc := r3.cap
    clear hn1 hn2 hm r1 r2 r3
    have kv := version_any v w1
    by_cases q1 : v = 0
    · have HL : Hid (readR xs = none) := HLn.out fun q => q.1 q1
      rw [decide_eq_false (show ¬ VerOk v from fun k => by have := k.1; omega)] at kv
      clear q1
      go_wp2_with fail
      refine kv.mono ?_
      rintro e w1x ⟨rfl, rfl⟩
      go_wp2_with ((with_reducible show wpList _ _ _ (Oper.mk _ (Op.store 34 (.tmp 2) _) _ _ _ _ :: _) _ _); (refine wp_store_row rfl rfl _ _ _ rfl w.heap.size _ _ 34 rfl rfl retry8_size HX1.out rfl (by simp [Value.oneCell']) ?_))
      obtain ⟨u, hu⟩ : ∃ u, u = World.setRow w1 w.heap.size #[.int .i64 0, .slice none 0 0, .slice none 0 0, .int .i64 0, .int .i64 0] := ⟨_, rfl⟩
      rw [← hu]
      have hux : u.heap[w.heap.size]? = some (.cells #[.int .i64 0, .slice none 0 0, .slice none 0 0, .int .i64 0, .int .i64 0] 34 (0, 0)) := by rw [hu]; exact setRow_heap _ w.heap.size _ _ _ _ HX1.out
      have HBu : Hid (Below w.heap.size w u) := by rw [hu]; exact below_setRow HBz.out (Nat.le_refl _) _
      have z0 := cell_of_row u w.heap.size 0 _ _ _ hux
      have z1 := cell_of_row u w.heap.size 1 _ _ _ hux
      have z2 := cell_of_row u w.heap.size 2 _ _ _ hux
      have z3 := cell_of_row u w.heap.size 3 _ _ _ hux
      have z4 := cell_of_row u w.heap.size 4 _ _ _ hux
      clear hu hux
      refine bodyPost_ret (v := .tuple #[.agg #[.int .i64 0, .slice none 0 0, .slice none 0 0, .int .i64 0, .int .i64 0], .int .i64 3]) (by simp [results, Try.results8, go_sem, z0, z1, z2, z3, z4]) rfl ?_
      rw [HL.out]
      exact RRPost.none (V := .int .i64 3) HBu.out
    rw [decide_eq_true (show VerOk v from ⟨by omega, by omega⟩)] at kv
    have hvb : (v == 0) = false := by simp [q1]
    go_wp2_with fail
    refine kv.mono ?_
    clear kv
    rintro e w1x ⟨rfl, rfl⟩
    by_cases q2 : m = 8
    rotate_left
    · have HL : Hid (readR xs = none) := HLn.out fun q => q2 (by rw [← HM.out]; exact q.2.1)
      have hb : ((m : Int) != 8) = true := by rw [bne_iff_ne]; omega
      clear q1
      go_wp2_with ((with_reducible show wpList _ _ _ (Oper.mk _ (Op.store 34 (.tmp 2) _) _ _ _ _ :: _) _ _); (refine wp_store_row rfl rfl _ _ _ rfl w.heap.size _ _ 34 rfl rfl retry8_size HX1.out rfl (by simp [Value.oneCell']) ?_))
      obtain ⟨u, hu⟩ : ∃ u, u = World.setRow w1 w.heap.size #[.int .i64 0, .slice none 0 0, .slice none 0 0, .int .i64 0, .int .i64 0] := ⟨_, rfl⟩
      rw [← hu]
      have hux : u.heap[w.heap.size]? = some (.cells #[.int .i64 0, .slice none 0 0, .slice none 0 0, .int .i64 0, .int .i64 0] 34 (0, 0)) := by rw [hu]; exact setRow_heap _ w.heap.size _ _ _ _ HX1.out
      have HBu : Hid (Below w.heap.size w u) := by rw [hu]; exact below_setRow HBz.out (Nat.le_refl _) _
      have z0 := cell_of_row u w.heap.size 0 _ _ _ hux
      have z1 := cell_of_row u w.heap.size 1 _ _ _ hux
      have z2 := cell_of_row u w.heap.size 2 _ _ _ hux
      have z3 := cell_of_row u w.heap.size 3 _ _ _ hux
      have z4 := cell_of_row u w.heap.size 4 _ _ _ hux
      clear hu hux
      refine bodyPost_ret (v := .tuple #[.agg #[.int .i64 0, .slice none 0 0, .slice none 0 0, .int .i64 0, .int .i64 0], .int .i64 3]) (by simp [results, Try.results8, go_sem, z0, z1, z2, z3, z4]) rfl ?_
      rw [HL.out]
      exact RRPost.none (V := .int .i64 3) HBu.out
    subst q2
    clear q1
    obtain ⟨x1, hx1⟩ : ∃ x, x = numOf (rs.take 4) := ⟨_, rfl⟩
    obtain ⟨x2, hx2⟩ : ∃ x, x = numOf (rs.drop 4) := ⟨_, rfl⟩
    have X1 := Lib.hid hx1
    have X2 := Lib.hid hx2
    have hc4i : (4 : Int) ≤ (c3 : Int) := by omega
    have K1 := numbered_any _ _ _ _ w1 (R3.out.take (m := 4) (by omega)) (fun x hx => HBR.out x (List.mem_of_mem_take hx))
    unfold NumdPost at K1
    rw [← hx1] at K1
    clear hx1
    go_wp2_with fail
    refine K1.mono ?_
    clear K1
    rintro e w4 ⟨rfl, hb4⟩
    have HB4 := Lib.hid hb4
    clear hb4
    have HR4 := Lib.hid (R3.out.below HB4.out)
    have HDb : Hid (Byt (rs.drop 4)) := byt_dropL HBR.out 4
    have K2 := numbered_any _ _ _ _ w4 (HR4.out.cut (l := 4) (by omega)) HDb.out
    unfold NumdPost at K2
    rw [← hx2] at K2
    clear hx2
    go_wp2_with ((with_reducible show wpList _ _ _ (Oper.mk _ (Op.slice _ _ _ _ _) _ _ _ _ :: _) _ _); refine wp_cut rfl _ _ rfl rfl rfl 4 rfl (by omega) HR4.out ?_; intro hr5; clear hr5)
    refine K2.mono ?_
    clear K2
    rintro e U ⟨rfl, hb5⟩
    have HBU : Hid (Below w1.heap.size w1 U) := below_next HB4.out HB4.out.size hb5
    have HXU : Hid (U.heap[w.heap.size]? = some (.cells #[.int .i64 0, .slice none 0 0, .slice none 0 0, .int .i64 0, .int .i64 0] 34 (0, 0))) := (HBU.out.block _ (lt_of_get HX1.out)).trans HX1.out
    have HBzU : Hid (Below w.heap.size w U) := below_next HBz.out HBz.out.size HBU.out
    clear hb5
    by_cases e1 : x1 = 0
    · have HL : Hid (readR xs = none) := HLn.out fun q => q.2.2.1 (by rw [← X1.out]; exact e1)
      have hb : (x1 != 0) = false := by simp [e1]
      clear e1
      go_wp2_with ((with_reducible show wpList _ _ _ (Oper.mk _ (Op.store 34 (.tmp 2) _) _ _ _ _ :: _) _ _); (refine wp_store_row rfl rfl _ _ _ rfl w.heap.size _ _ 34 rfl rfl retry8_size HXU.out rfl (by simp [Value.oneCell']) ?_))
      obtain ⟨u, hu⟩ : ∃ u, u = World.setRow U w.heap.size #[.int .i64 0, .slice none 0 0, .slice none 0 0, .int .i64 0, .int .i64 0] := ⟨_, rfl⟩
      rw [← hu]
      have hux : u.heap[w.heap.size]? = some (.cells #[.int .i64 0, .slice none 0 0, .slice none 0 0, .int .i64 0, .int .i64 0] 34 (0, 0)) := by rw [hu]; exact setRow_heap _ w.heap.size _ _ _ _ HXU.out
      have HBu : Hid (Below w.heap.size w u) := by rw [hu]; exact below_setRow HBzU.out (Nat.le_refl _) _
      have z0 := cell_of_row u w.heap.size 0 _ _ _ hux
      have z1 := cell_of_row u w.heap.size 1 _ _ _ hux
      have z2 := cell_of_row u w.heap.size 2 _ _ _ hux
      have z3 := cell_of_row u w.heap.size 3 _ _ _ hux
      have z4 := cell_of_row u w.heap.size 4 _ _ _ hux
      clear hu hux
      refine bodyPost_ret (v := .tuple #[.agg #[.int .i64 0, .slice none 0 0, .slice none 0 0, .int .i64 0, .int .i64 0], .int .i64 3]) (by simp [results, Try.results8, go_sem, z0, z1, z2, z3, z4]) rfl ?_
      rw [HL.out]
      exact RRPost.none (V := .int .i64 3) HBu.out
    have e1b : (x1 != 0) = true := by simp [e1]
    by_cases e2 : x2 = 0
    · have HL : Hid (readR xs = none) := HLn.out fun q => q.2.2.2 (by rw [← X2.out]; exact e2)
      have hb : (x2 != 0) = false := by simp [e2]
      clear e1 e2
      go_wp2_with ((with_reducible show wpList _ _ _ (Oper.mk _ (Op.store 34 (.tmp 2) _) _ _ _ _ :: _) _ _); (refine wp_store_row rfl rfl _ _ _ rfl w.heap.size _ _ 34 rfl rfl retry8_size HXU.out rfl (by simp [Value.oneCell']) ?_))
      obtain ⟨u, hu⟩ : ∃ u, u = World.setRow U w.heap.size #[.int .i64 0, .slice none 0 0, .slice none 0 0, .int .i64 0, .int .i64 0] := ⟨_, rfl⟩
      rw [← hu]
      have hux : u.heap[w.heap.size]? = some (.cells #[.int .i64 0, .slice none 0 0, .slice none 0 0, .int .i64 0, .int .i64 0] 34 (0, 0)) := by rw [hu]; exact setRow_heap _ w.heap.size _ _ _ _ HXU.out
      have HBu : Hid (Below w.heap.size w u) := by rw [hu]; exact below_setRow HBzU.out (Nat.le_refl _) _
      have z0 := cell_of_row u w.heap.size 0 _ _ _ hux
      have z1 := cell_of_row u w.heap.size 1 _ _ _ hux
      have z2 := cell_of_row u w.heap.size 2 _ _ _ hux
      have z3 := cell_of_row u w.heap.size 3 _ _ _ hux
      have z4 := cell_of_row u w.heap.size 4 _ _ _ hux
      clear hu hux
      refine bodyPost_ret (v := .tuple #[.agg #[.int .i64 0, .slice none 0 0, .slice none 0 0, .int .i64 0, .int .i64 0], .int .i64 3]) (by simp [results, Try.results8, go_sem, z0, z1, z2, z3, z4]) rfl ?_
      rw [HL.out]
      exact RRPost.none (V := .int .i64 3) HBu.out
    have e2b : (x2 != 0) = true := by simp [e2]
    have HL : Hid (readR xs = some ⟨v, ts, fr, x1, x2⟩) := by
      rw [X1.out, X2.out]
      exact HLy.out ⟨by simpa using hvb, HM.out, by rw [← X1.out]; exact e1, by rw [← X2.out]; exact e2⟩
    clear e1 e2
    go_wp2_with ((with_reducible show wpList _ _ _ (Oper.mk _ (Op.store 34 (.tmp 2) _) _ _ _ _ :: _) _ _); (refine wp_store_row rfl rfl _ _ _ rfl w.heap.size _ _ 34 rfl rfl retry8_size HXU.out rfl (by simp [Value.oneCell']) ?_))
    obtain ⟨u, hu⟩ : ∃ u, u = World.setRow U w.heap.size #[.int .i64 v, .slice A1 n1 c1, .slice A2 n2 c2, .int .i64 x1, .int .i64 x2] := ⟨_, rfl⟩
    rw [← hu]
    have hux : u.heap[w.heap.size]? = some (.cells #[.int .i64 v, .slice A1 n1 c1, .slice A2 n2 c2, .int .i64 x1, .int .i64 x2] 34 (0, 0)) := by rw [hu]; exact setRow_heap _ w.heap.size _ _ _ _ HXU.out
    have HBu : Hid (Below w.heap.size w u) := by rw [hu]; exact below_setRow HBzU.out (Nat.le_refl _) _
    have S1 : Hid (Rds u.heap.size u .u8 A1 n1 c1 ts) := by
      have h2 := rds8_setRow (R1.out.below HBU.out) (g := w.heap.size) #[.int .i64 v, .slice A1 n1 c1, .slice A2 n2 c2, .int .i64 x1, .int .i64 x2] (fun a p e => by have := AW1.out a (by have := HN1.out; omega) e; have := HSW.out; omega)
      rw [← hu] at h2
      exact h2.top
    have S2 : Hid (Rds u.heap.size u .u8 A2 n2 c2 fr) := by
      have h2 := rds8_setRow (R2.out.below HBU.out) (g := w.heap.size) #[.int .i64 v, .slice A1 n1 c1, .slice A2 n2 c2, .int .i64 x1, .int .i64 x2] (fun a p e => by have := AW2.out a (by have := HN2.out; omega) e; have := HSW.out; omega)
      rw [← hu] at h2
      exact h2.top
    have z0 := cell_of_row u w.heap.size 0 _ _ _ hux
    have z1 := cell_of_row u w.heap.size 1 _ _ _ hux
    have z2 := cell_of_row u w.heap.size 2 _ _ _ hux
    have z3 := cell_of_row u w.heap.size 3 _ _ _ hux
    have z4 := cell_of_row u w.heap.size 4 _ _ _ hux
    clear hu hux
    refine bodyPost_ret (v := .tuple #[.agg #[.int .i64 v, .slice A1 n1 c1, .slice A2 n2 c2, .int .i64 x1, .int .i64 x2], .int .i64 0]) (by simp [results, Try.results8, go_sem, z0, z1, z2, z3, z4]) rfl ?_
    rw [HL.out]
    refine ⟨HBu.out, A1, c1, A2, c2, ?_, ?_, ?_⟩
    · show _ = Ending.returned (.tuple #[.agg #[.int .i64 v, .slice A1 ts.length c1, .slice A2 fr.length c2, .int .i64 x1, .int .i64 x2], .int .i64 0])
      rw [HN1.out, HN2.out]
    · show Rds u.heap.size u .u8 A1 ts.length c1 ts
      rw [HN1.out]; exact S1.out
    · show Rds u.heap.size u .u8 A2 fr.length c2 fr
      rw [HN2.out]; exact S2.out
end Go.Proofs.Ytomopjpfdmpgpaa
