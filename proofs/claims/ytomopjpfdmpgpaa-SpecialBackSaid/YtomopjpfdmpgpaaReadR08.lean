/- Own texts, one behind the other. Each bears its own remark. -/
import Derived.Test.YtomopjpfdmpgpaaStart08
import Derived.Test.YtomopjpfdmpgpaaIdeal3
import Derived.Test.YtomopjpfdmpgpaaStoreRow
import Derived.Laws.ResultCell
import Derived.Laws.Rows
/- The reference of layer 8: four, ReadList. No condition. -/
set_option linter.unusedVariables false
set_option linter.unusedSimpArgs false
namespace Go.Proofs.Ytomopjpfdmpgpaa
open Go Go.RowKit

/-- The k-th number of four bytes. -/
def quad (rs : List Int) (k : Nat) : Int := beN (cutL rs (4 * k) 4)
def quadsN (rs : List Int) (k : Nat) : List Int := (List.range k).map (quad rs)
theorem quadsN_succ (rs : List Int) (k : Nat) : quadsN rs (k + 1) = quadsN rs k ++ [quad rs k] := by
  unfold quadsN; rw [List.range_succ, List.map_append]; rfl
theorem quadsN_len (rs : List Int) (k : Nat) : (quadsN rs k).length = k := by unfold quadsN; simp
def listOk (h : Hd) : Prop := h.v = 0 ∧ h.rs.length ≠ 0 ∧ h.rs.length % 4 = 0 ∧ h.rs.length ≤ 64 ∧ ∀ i, i < h.rs.length / 4 → quad h.rs i ≠ 0
open Classical in
noncomputable def readL (xs : List Int) : Option (List Int × List Int × List Int) := match startP xs 128 with
  | some h => if listOk h then some (h.tn, h.fn, quadsN h.rs (h.rs.length / 4)) else none
  | none => none
def rl1 (r : Option (List Int × List Int × List Int)) : List Int := match r with | some x => x.1 | none => []
def rl2 (r : Option (List Int × List Int × List Int)) : List Int := match r with | some x => x.2.1 | none => []
def rl3 (r : Option (List Int × List Int × List Int)) : List Int := match r with | some x => x.2.2 | none => []
theorem Rds.top {B : Nat} {w : World} {k : IntKind} {A : Option Addr} {n c : Nat} {xs : List Int} (h : Rds B w k A n c xs) : Rds w.heap.size w k A n c xs :=
  ⟨h.len, h.cap, h.max, h.cell, fun p a e => ⟨(h.safe p a e).1, .inl (h.safe p a e).1⟩⟩
/-- The list's block while its numbers grow. -/
def LAt (W : World) (g : Nat) (T : TypeId) (V1 V2 : Value) (vs : List Int) : Prop := ∃ v, W.heap[g]? = some (.cells #[V1, V2, v] T (0, 0)) ∧ OwnI W (g + 1) .i64 v vs
theorem LAt.below {W W' : World} {g : Nat} {T : TypeId} {V1 V2 : Value} {vs : List Int} (h : LAt W g T V1 V2 vs) (hb : Below W.heap.size W W') : LAt W' g T V1 V2 vs := by
  obtain ⟨v, h1, h2⟩ := h
  exact ⟨v, (hb.block _ (lt_of_get h1)).trans h1, h2.below hb⟩
theorem LAt.put {W : World} {g : Nat} {T : TypeId} {V1 V2 v v' : Value} {vs : List Int} (h : W.heap[g]? = some (.cells #[V1, V2, v] T (0, 0))) (ho : OwnI W (g + 1) .i64 v' vs) : LAt (W.setCell ⟨g, 2, none⟩ v') g T V1 V2 vs :=
  ⟨v', by rw [in_set h v']; rfl, ho.setBelow (Nat.lt_succ_self g) v'⟩
theorem rds8_setRow {B : Nat} {w : World} {k : IntKind} {A : Option Addr} {n c : Nat} {xs : List Int} (h : Rds B w k A n c xs) {g : Nat} (cs : Array Value) (hne : ∀ a, 0 < n → A = some a → a.block ≠ g) : Rds B (w.setRow g cs) k A n c xs := by
  refine ⟨h.len, h.cap, h.max, fun j hj => ?_, fun p a e => ?_⟩
  · obtain ⟨ad, e, hc⟩ := h.cell j hj
    refine ⟨ad, e, ?_⟩
    rw [← hc]
    exact World.cell?_of_block (by rw [add_block]; exact setRow_other w g _ _ (hne ad (by have := h.len; omega) e))
  · have hk := h.safe p a e
    have hn := hne a p e
    refine ⟨by simpa using hk.1, hk.2.imp id ?_⟩
    rintro ⟨cs', t, fr, q1, q2⟩
    exact ⟨cs', t, fr, (setRow_other w g _ _ hn).trans q1, q2⟩
theorem own8_setRow {w : World} {B : Nat} {k : IntKind} {v : Value} {xs : List Int} (h : OwnI w B k v xs) {g : Nat} (hg : g < B) (cs : Array Value) : OwnI (w.setRow g cs) B k v xs := by
  rcases h with h | ⟨g', cap, cur, t, rfl, hb, hgg, r⟩
  · exact .inl h
  · exact .inr ⟨g', cap, cur, t, rfl, hb, (setRow_other w g g' _ (by omega)).trans hgg, r⟩
theorem byt_dropL {xs : List Int} (h : Byt xs) (k : Nat) : Byt (xs.drop k) := fun x hx => h x (List.mem_of_mem_drop hx)
theorem startP_some {xs : List Int} {f : Int} {h : Hd} (e : startP xs f = some h) (hb : Byt xs) : Byt h.tn ∧ Byt h.fn ∧ Byt h.rs ∧ 0 ≤ h.v ∧ h.v ≤ 4294967295 ∧ h.tn.length ≤ 20 ∧ h.fn.length ≤ 20 := by
  unfold startP at e
  by_cases q : startOk xs f
  · rw [if_pos q] at e
    obtain rfl := Option.some.inj e
    obtain ⟨l1, l2, l3, l4, l5, l6⟩ := q
    refine ⟨hb.cut _ _, hb.cut _ _, byt_dropL hb _, ?_, ?_, ?_, ?_⟩
    · have := beN_bound (hb.cut 1 5) 4 (by decide) (by simp; omega)
      have e1 : (cutL xs 1 4).take 4 = cutL xs 1 4 := List.take_of_length_le (by rw [cutL_len (by omega)]; exact Nat.le_refl _)
      have := e1 ▸ (show 0 ≤ beN ((cutL xs 1 4).take 4) from this.1)
      exact this
    · have := beN_bound (hb.cut 1 5) 4 (by decide) (by simp; omega)
      have e1 : (cutL xs 1 4).take 4 = cutL xs 1 4 := List.take_of_length_le (by rw [cutL_len (by omega)]; exact Nat.le_refl _)
      have h2 : beN (cutL xs 1 4) < 256 ^ 4 := e1 ▸ (show beN ((cutL xs 1 4).take 4) < 256 ^ 4 from this.2)
      simp only
      have : (256 : Int) ^ 4 = 4294967296 := by decide
      omega
    · simp only [cutL_len (show 6 + (nth xs 5).toNat ≤ xs.length from by omega)]; omega
    · simp only [cutL_len (show 7 + (nth xs 5).toNat + (nth xs (6 + (nth xs 5).toNat)).toNat ≤ xs.length from by omega)]; omega
  · rw [if_neg q] at e; cases e
theorem quad_drop (rs : List Int) (k : Nat) : beN (cutL (rs.drop (4 * k)) 0 4) = quad rs k := by
  unfold quad cutL
  rw [Nat.zero_add, List.drop_zero, List.take_drop, Nat.add_comm]
def RLPost (r : Option (List Int × List Int × List Int)) (V : Value) (w : World) (e : Ending) (w' : World) : Prop :=
  Below w.heap.size w w' ∧ ∃ A1 c1 A2 c2 A3 c3, e = .returned (.tuple #[.agg #[.slice A1 (rl1 r).length c1, .slice A2 (rl2 r).length c2, .slice A3 (rl3 r).length c3], V]) ∧ Rds w'.heap.size w' .u8 A1 (rl1 r).length c1 (rl1 r) ∧ Rds w'.heap.size w' .u8 A2 (rl2 r).length c2 (rl2 r) ∧ Rds w'.heap.size w' .i64 A3 (rl3 r).length c3 (rl3 r)
theorem RLPost.none {V : Value} {w w' : World} (hb : Below w.heap.size w w') : RLPost .none V w (.returned (.tuple #[.agg #[.slice .none 0 0, .slice .none 0 0, .slice .none 0 0], V])) w' :=
  ⟨hb, .none, 0, .none, 0, .none, 0, rfl, Rds.nil _ _ _, Rds.nil _ _ _, Rds.nil _ _ _⟩
theorem results_row_tmp {P : Program} {fn : Func} {p u : Tmp} {ty : TypeId} (h : fn.results = #[.cell p ty, .tmp u]) (tmps : Array Value) (w : World) (g : Nat) (t : TypeId) (cs : Array Value) (fr : Nat × Nat) (d : TypeDesc)
    (hp : tmps.getD p undef = .pointer (some ⟨g, 0, none⟩)) (hg : w.heap[g]? = some (.cells cs t fr))
    (hu : P.underlying ty = some d) (hd : (match d with | .struct _ | .array _ _ => true | _ => false) = true) (hi : (P.info? ty).map (·.size) = some cs.size) :
    (results fn tmps).run P w = .ok (.tuple #[.agg cs, tmps.getD u undef]) w := by
  have hp' : tmps[p]?.getD undef = .pointer (some ⟨g, 0, none⟩) := by simpa using hp
  rw [results_cell_tmp h]
  simp [hp', asAddr, run_loadVar_row w g t ty cs fr d hg hu hd hi]
set_option maxHeartbeats 1600000 in
theorem four_any {B : Nat} {A : Option Addr} {n c : Nat} {xs : List Int} (w : World) (h : Rds B w .u8 A n c xs) (hb : Byt xs) (hn : 4 ≤ n) :
    Calls Try.prog 37 #[.slice A n c] w fun e w' => e = .returned (.int .i64 (beN (cutL xs 0 4))) ∧ Below w.heap.size w w' := by
  have hl := h.len
  have hr := h.take hn
  have n0 : (0 : Int) < (n : Int) := by omega
  have n1 : (1 : Int) < (n : Int) := by omega
  have n2 : (2 : Int) < (n : Int) := by omega
  have n3 : (3 : Int) < (n : Int) := by omega
  have hcap := h.cap
  have hmax := h.max
  obtain ⟨b, o, rfl, hc⟩ := h.cell.at_ (by omega)
  have x0 : w.cell? ⟨b, o, none⟩ = _ := hc 0 (by omega)
  have x1 := hc 1 (by omega)
  have x2 := hc 2 (by omega)
  have x3 := hc 3 (by omega)
  have b0 := hb.nth 0
  have b1 := hb.nth 1
  have b2 := hb.nth 2
  have b3 := hb.nth 3
  have HE : Hid (beN (cutL xs 0 4) = ((nth xs 0 * 256 + nth xs 1) * 256 + nth xs 2) * 256 + nth xs 3) := by
    show _ = _
    have : cutL xs 0 4 = [nth xs 0, nth xs 1, nth xs 2, nth xs 3] := by
      unfold cutL
      have := list_four (xs := xs.take 4) (by simp; omega)
      simp only [Nat.zero_add, List.drop_zero]
      rw [this]
      simp only [nth, List.getElem?_take]
      simp
    rw [this]
    simp only [beN, List.foldl]
    omega
  clear hc hr h hb
  generalize nth xs 0 = y0 at *
  generalize nth xs 1 = y1 at *
  generalize nth xs 2 = y2 at *
  generalize nth xs 3 = y3 at *
  obtain ⟨b00, b01⟩ := b0
  obtain ⟨b10, b11⟩ := b1
  obtain ⟨b20, b21⟩ := b2
  obtain ⟨b30, b31⟩ := b3
  rw [HE.out]
  clear HE
  go_enter Try.func37, Try.ntmps37
  go_wp2_with fail
  go_region
  go_wp2_with fail
  go_ret
  exact ⟨rfl, (Below.refl _ _).drew⟩
theorem list08_size : (Try.prog.info? 29).map (·.size) = some 3 := by kernel_rfl
set_option maxHeartbeats 6400000 in
set_option maxRecDepth 100000 in
theorem readList08_any {B n c : Nat} {A : Option Addr} {xs : List Int} (w : World) (h : Rds B w .u8 A n c xs) (hb : Byt xs) :
    Calls Try.prog 7 #[.slice A n c] w (RLPost (readL xs) (.bool (readL xs).isSome) w) := by
  obtain ⟨W, hW⟩ : ∃ W, W = w.alloc (.cells #[.slice none 0 0, .slice none 0 0, .slice none 0 0] 29) := ⟨_, rfl⟩
  have HBW : Hid (Below w.heap.size w W) := by rw [hW]; exact below_new _
  have HSW : Hid (W.heap.size = w.heap.size + 1) := by rw [hW]; show _ = _; simp
  have HXW : Hid (W.heap[w.heap.size]? = some (.cells #[.slice none 0 0, .slice none 0 0, .slice none 0 0] 29 (0, 0))) := by rw [hW]; exact heap_alloc_new w _
  have key := start08_any (q := w.heap.size) 128 (by decide) (by decide) W (Nat.le_refl _) (h.below (by rw [hW]; exact below_new _)).top (fun a p e => (h.safe p a e).1) hb
  have HBY := Lib.hid hb
  clear h hb
  go_enter Try.func7, Try.ntmps7
  go_wp2_with fail
  rw [← hW]
  refine key.mono ?_
  clear key hW
  rintro e w1 ⟨hb1, hp⟩
  have HB1 := Lib.hid hb1
  have HX1 : Hid (w1.heap[w.heap.size]? = some (.cells #[.slice none 0 0, .slice none 0 0, .slice none 0 0] 29 (0, 0))) := (hb1.block _ (lt_of_get HXW.out)).trans HXW.out
  have HBz : Hid (Below w.heap.size w w1) := below_next HBW.out HBW.out.size hb1
  have x0 := HX1.out
  clear hb1
  cases hst : startP xs 128 with
  | none =>
    rw [hst] at hp
    obtain ⟨v, A1, n1, c1, A2, n2, c2, A3, n3, c3, rfl⟩ := hp
    have HL : Hid (readL xs = none) := by show _ = _; unfold readL; rw [hst]
    clear hst
    go_wp2_with ((with_reducible show wpList _ _ _ (Oper.mk _ (Op.store 29 (.tmp 2) _) _ _ _ _ :: _) _ _); (refine wp_store_row rfl rfl _ _ _ rfl w.heap.size _ _ 29 rfl rfl list08_size HX1.out rfl (by simp [Value.oneCell']) ?_))
    obtain ⟨u, hu⟩ : ∃ u, u = World.setRow w1 w.heap.size #[.slice none 0 0, .slice none 0 0, .slice none 0 0] := ⟨_, rfl⟩
    rw [← hu]
    have hux : u.heap[w.heap.size]? = some (.cells #[.slice none 0 0, .slice none 0 0, .slice none 0 0] 29 (0, 0)) := by rw [hu]; exact setRow_heap _ w.heap.size _ _ _ _ HX1.out
    have HBu : Hid (Below w.heap.size w u) := by rw [hu]; exact below_setRow HBz.out (Nat.le_refl _) _
    have z0 := cell_of_row u w.heap.size 0 _ _ _ hux
    have z1 := cell_of_row u w.heap.size 1 _ _ _ hux
    have z2 := cell_of_row u w.heap.size 2 _ _ _ hux
    clear hu hux
    refine bodyPost_ret (v := .tuple #[.agg #[.slice none 0 0, .slice none 0 0, .slice none 0 0], .bool false]) (by simp [results, Try.results7, go_sem, z0, z1, z2]) rfl ?_
    rw [HL.out]
    exact RLPost.none HBu.out
  | some hd =>
    rw [hst] at hp
    obtain ⟨A1, c1, A2, c2, A3, c3, rfl, r1, r2, r3, w1', w2', -⟩ := hp
    obtain ⟨v, ts, fr, rs⟩ := hd
    have HBR : Hid (Byt rs) := (startP_some hst HBY.out).2.2.1
    simp only at r1 r2 r3 ⊢
    have HLn : Hid (¬ listOk ⟨v, ts, fr, rs⟩ → readL xs = none) := by show _ → _; intro q; unfold readL; rw [hst]; simp only; rw [if_neg q]
    have HLy : Hid (listOk ⟨v, ts, fr, rs⟩ → readL xs = some (ts, fr, quadsN rs (rs.length / 4))) := by show _ → _; intro q; unfold readL; rw [hst]; simp only; rw [if_pos q]
    clear hst
    obtain ⟨m, hm⟩ : ∃ m, rs.length = m := ⟨_, rfl⟩
    obtain ⟨n1, hn1⟩ : ∃ m, ts.length = m := ⟨_, rfl⟩
    obtain ⟨n2, hn2⟩ : ∃ m, fr.length = m := ⟨_, rfl⟩
    rw [hn1] at r1
    rw [hn2] at r2
    rw [hm] at r3
    have AW1 := Lib.hid w1'
    have AW2 := Lib.hid w2'
    clear w1' w2'
    simp only [hm, hn1, hn2]
    have HM := Lib.hid hm
    have HN1 := Lib.hid hn1
    have HN2 := Lib.hid hn2
    have R1 := Lib.hid r1
    have R2 := Lib.hid r2
    have R3 := Lib.hid r3
    have hmx := r3.max
    have hmc := r3.cap
    clear hn1 hn2 hm r1 r2 r3
    by_cases q1 : v = 0
    rotate_left
    · have HL : Hid (readL xs = none) := HLn.out fun q => q1 q.1
      have hb : (v != 0) = true := by simp [q1]
      clear q1
      go_wp2_with ((with_reducible show wpList _ _ _ (Oper.mk _ (Op.store 29 (.tmp 2) _) _ _ _ _ :: _) _ _); (refine wp_store_row rfl rfl _ _ _ rfl w.heap.size _ _ 29 rfl rfl list08_size HX1.out rfl (by simp [Value.oneCell']) ?_))
      obtain ⟨u, hu⟩ : ∃ u, u = World.setRow w1 w.heap.size #[.slice none 0 0, .slice none 0 0, .slice none 0 0] := ⟨_, rfl⟩
      rw [← hu]
      have hux : u.heap[w.heap.size]? = some (.cells #[.slice none 0 0, .slice none 0 0, .slice none 0 0] 29 (0, 0)) := by rw [hu]; exact setRow_heap _ w.heap.size _ _ _ _ HX1.out
      have HBu : Hid (Below w.heap.size w u) := by rw [hu]; exact below_setRow HBz.out (Nat.le_refl _) _
      have z0 := cell_of_row u w.heap.size 0 _ _ _ hux
      have z1 := cell_of_row u w.heap.size 1 _ _ _ hux
      have z2 := cell_of_row u w.heap.size 2 _ _ _ hux
      clear hu hux
      refine bodyPost_ret (v := .tuple #[.agg #[.slice none 0 0, .slice none 0 0, .slice none 0 0], .bool false]) (by simp [results, Try.results7, go_sem, z0, z1, z2]) rfl ?_
      rw [HL.out]
      exact RLPost.none HBu.out
    by_cases q2 : m = 0
    · have HL : Hid (readL xs = none) := HLn.out fun q => q.2.1 (by rw [← q2]; exact HM.out)
      subst q2
      have hb : (v != 0) = false := by simp [q1]
      clear q1
      go_wp2_with ((with_reducible show wpList _ _ _ (Oper.mk _ (Op.store 29 (.tmp 2) _) _ _ _ _ :: _) _ _); (refine wp_store_row rfl rfl _ _ _ rfl w.heap.size _ _ 29 rfl rfl list08_size HX1.out rfl (by simp [Value.oneCell']) ?_))
      obtain ⟨u, hu⟩ : ∃ u, u = World.setRow w1 w.heap.size #[.slice none 0 0, .slice none 0 0, .slice none 0 0] := ⟨_, rfl⟩
      rw [← hu]
      have hux : u.heap[w.heap.size]? = some (.cells #[.slice none 0 0, .slice none 0 0, .slice none 0 0] 29 (0, 0)) := by rw [hu]; exact setRow_heap _ w.heap.size _ _ _ _ HX1.out
      have HBu : Hid (Below w.heap.size w u) := by rw [hu]; exact below_setRow HBz.out (Nat.le_refl _) _
      have z0 := cell_of_row u w.heap.size 0 _ _ _ hux
      have z1 := cell_of_row u w.heap.size 1 _ _ _ hux
      have z2 := cell_of_row u w.heap.size 2 _ _ _ hux
      clear hu hux
      refine bodyPost_ret (v := .tuple #[.agg #[.slice none 0 0, .slice none 0 0, .slice none 0 0], .bool false]) (by simp [results, Try.results7, go_sem, z0, z1, z2]) rfl ?_
      rw [HL.out]
      exact RLPost.none HBu.out
    have hvb : (v != 0) = false := by simp [q1]
    have hmb : ((m : Int) == 0) = false := by simp [q2]
    have hm0 : (0 : Int) ≤ m := by omega
    by_cases q3 : m % 4 = 0
    rotate_left
    · have HL : Hid (readL xs = none) := HLn.out fun q => q3 (by rw [← HM.out]; exact q.2.2.1)
      have hb : ¬ ((m : Int) % 4 = 0) := by omega
      clear q1 q3
      go_wp2_with ((with_reducible show wpList _ _ _ (Oper.mk _ (Op.store 29 (.tmp 2) _) _ _ _ _ :: _) _ _); (refine wp_store_row rfl rfl _ _ _ rfl w.heap.size _ _ 29 rfl rfl list08_size HX1.out rfl (by simp [Value.oneCell']) ?_))
      obtain ⟨u, hu⟩ : ∃ u, u = World.setRow w1 w.heap.size #[.slice none 0 0, .slice none 0 0, .slice none 0 0] := ⟨_, rfl⟩
      rw [← hu]
      have hux : u.heap[w.heap.size]? = some (.cells #[.slice none 0 0, .slice none 0 0, .slice none 0 0] 29 (0, 0)) := by rw [hu]; exact setRow_heap _ w.heap.size _ _ _ _ HX1.out
      have HBu : Hid (Below w.heap.size w u) := by rw [hu]; exact below_setRow HBz.out (Nat.le_refl _) _
      have z0 := cell_of_row u w.heap.size 0 _ _ _ hux
      have z1 := cell_of_row u w.heap.size 1 _ _ _ hux
      have z2 := cell_of_row u w.heap.size 2 _ _ _ hux
      clear hu hux
      refine bodyPost_ret (v := .tuple #[.agg #[.slice none 0 0, .slice none 0 0, .slice none 0 0], .bool false]) (by simp [results, Try.results7, go_sem, z0, z1, z2]) rfl ?_
      rw [HL.out]
      exact RLPost.none HBu.out
    have hr4 : (m : Int) % 4 = 0 := by omega
    by_cases q4 : 64 < m
    · have HL : Hid (readL xs = none) := HLn.out fun q => by have := q.2.2.2.1; have := HM.out; simp only at *; omega
      have hb : (m : Int) > 64 := by omega
      clear q1 q3
      go_wp2_with ((with_reducible show wpList _ _ _ (Oper.mk _ (Op.store 29 (.tmp 2) _) _ _ _ _ :: _) _ _); (refine wp_store_row rfl rfl _ _ _ rfl w.heap.size _ _ 29 rfl rfl list08_size HX1.out rfl (by simp [Value.oneCell']) ?_))
      obtain ⟨u, hu⟩ : ∃ u, u = World.setRow w1 w.heap.size #[.slice none 0 0, .slice none 0 0, .slice none 0 0] := ⟨_, rfl⟩
      rw [← hu]
      have hux : u.heap[w.heap.size]? = some (.cells #[.slice none 0 0, .slice none 0 0, .slice none 0 0] 29 (0, 0)) := by rw [hu]; exact setRow_heap _ w.heap.size _ _ _ _ HX1.out
      have HBu : Hid (Below w.heap.size w u) := by rw [hu]; exact below_setRow HBz.out (Nat.le_refl _) _
      have z0 := cell_of_row u w.heap.size 0 _ _ _ hux
      have z1 := cell_of_row u w.heap.size 1 _ _ _ hux
      have z2 := cell_of_row u w.heap.size 2 _ _ _ hux
      clear hu hux
      refine bodyPost_ret (v := .tuple #[.agg #[.slice none 0 0, .slice none 0 0, .slice none 0 0], .bool false]) (by simp [results, Try.results7, go_sem, z0, z1, z2]) rfl ?_
      rw [HL.out]
      exact RLPost.none HBu.out
    have hb : ¬ (m : Int) > 64 := by omega
    clear q1
    go_wp2_with (first
      | ((with_reducible show wpList _ _ _ (Oper.mk _ (Op.store 29 (.tmp 9) _) _ _ _ _ :: _) _ _); (refine wp_store_row rfl rfl _ _ _ rfl w1.heap.size _ _ 29 rfl rfl list08_size (heap_alloc_new w1 _) rfl (by simp [Value.oneCell']) ?_)))
    obtain ⟨g, hg⟩ : ∃ g, g = w1.heap.size := ⟨_, rfl⟩
    rw [← hg]
    obtain ⟨V, hV⟩ : ∃ V, V = World.setRow (w1.alloc (.cells #[.slice none 0 0, .slice none 0 0, .slice none 0 0] 29)) g #[.slice A1 n1 c1, .slice A2 n2 c2, .slice none 0 0] := ⟨_, rfl⟩
    rw [← hV]
    have hVg : V.heap[g]? = some (.cells #[.slice A1 n1 c1, .slice A2 n2 c2, .slice none 0 0] 29 (0, 0)) := by rw [hV]; exact setRow_heap _ g _ _ _ _ (by rw [hg]; exact heap_alloc_new w1 _)
    have HVg : Hid (LAt V g 29 (.slice A1 n1 c1) (.slice A2 n2 c2) (quadsN rs 0)) := ⟨_, hVg, OwnI.nil _ _ _⟩
    have HBV : Hid (Below g w1 V) := by rw [hV]; exact below_setRow (by rw [hg]; exact below_new _) (Nat.le_refl _) _
    have HG : Hid (g = w1.heap.size) := hg
    have hsw : w.heap.size < g := by rw [hg]; exact lt_of_get HX1.out
    clear hV hVg hg x0
    go_loopw [10] (fun i wr => ∃ k : Nat, 4 * k ≤ m ∧ i = .int .i64 ((4 * k : Nat) : Int) ∧ LAt wr g 29 (.slice A1 n1 c1) (.slice A2 n2 c2) (quadsN rs k) ∧ Below g w1 wr ∧ Hid (∀ j, j < k → quad rs j ≠ 0)) (fun i _ => m - (intOf i).toNat)
    case atStart => exact ⟨0, Nat.zero_le _, rfl, HVg.out, HBV.out, fun j hj => by omega⟩
    case round =>
      obtain ⟨k, hk, rfl, hl, hbw, hnz⟩ := hrel
      have HLA := Lib.hid hl
      have HBW2 := Lib.hid hbw
      clear hl hbw
      by_cases hlt : 4 * k < m
      · have hk4 : 4 * k + 4 ≤ m := by omega
        have HR := Lib.hid (R3.out.below (by rw [← HG.out]; exact HBW2.out))
        go_wp2_with ((with_reducible show wpList _ _ _ (Oper.mk _ (Op.slice _ _ _ _ _) _ _ _ _ :: _) _ _); refine wp_cut rfl _ _ rfl rfl rfl (4 * k) rfl hk HR.out ?_; intro hr2; have HR2 := Lib.hid hr2; clear hr2)
        have key := four_any wr HR2.out (byt_dropL HBR.out _) (by omega)
        rw [quad_drop] at key
        refine key.mono ?_
        clear key
        rintro e w6 ⟨rfl, hb6⟩
        have HL6 : Hid (LAt w6 g 29 (.slice A1 n1 c1) (.slice A2 n2 c2) (quadsN rs k)) := HLA.out.below hb6
        have HB6 : Hid (Below g w1 w6) := HBW2.out.trans (by obtain ⟨_, q, _⟩ := HLA.out; exact hb6.mono (Nat.le_of_lt (lt_of_get q)))
        clear hb6
        obtain ⟨z, hz⟩ : ∃ z, z = quad rs k := ⟨_, rfl⟩
        rw [← hz]
        have HZ := Lib.hid hz
        clear hz
        by_cases hz0 : z = 0
        · have HL : Hid (readL xs = none) := HLn.out fun q => q.2.2.2.2 k (by have := HM.out; simp only; omega) (by rw [← HZ.out]; exact hz0)
          have HX6 : Hid (w6.heap[w.heap.size]? = some (.cells #[.slice none 0 0, .slice none 0 0, .slice none 0 0] 29 (0, 0))) := (HB6.out.block _ hsw).trans HX1.out
          have HBz6 : Hid (Below w.heap.size w w6) := HBz.out.trans (HB6.out.mono (Nat.le_of_lt hsw))
          subst hz0
          go_wp2_with ((with_reducible show wpList _ _ _ (Oper.mk _ (Op.store 29 (.tmp 2) _) _ _ _ _ :: _) _ _); (refine wp_store_row rfl rfl _ _ _ rfl w.heap.size _ _ 29 rfl rfl list08_size HX6.out rfl (by simp [Value.oneCell']) ?_))
          obtain ⟨u, hu⟩ : ∃ u, u = World.setRow w6 w.heap.size #[.slice none 0 0, .slice none 0 0, .slice none 0 0] := ⟨_, rfl⟩
          rw [← hu]
          have hux : u.heap[w.heap.size]? = some (.cells #[.slice none 0 0, .slice none 0 0, .slice none 0 0] 29 (0, 0)) := by rw [hu]; exact setRow_heap _ w.heap.size _ _ _ _ HX6.out
          have HBu : Hid (Below w.heap.size w u) := by rw [hu]; exact below_setRow HBz6.out (Nat.le_refl _) _
          have z0 := cell_of_row u w.heap.size 0 _ _ _ hux
          have z1 := cell_of_row u w.heap.size 1 _ _ _ hux
          have z2 := cell_of_row u w.heap.size 2 _ _ _ hux
          clear hu hux
          refine bodyPost_ret (v := .tuple #[.agg #[.slice none 0 0, .slice none 0 0, .slice none 0 0], .bool false]) (by simp [results, Try.results7, go_sem, z0, z1, z2]) rfl ?_
          rw [HL.out]
          exact RLPost.none HBu.out
        · have hzb : (z == 0) = false := by simp [hz0]
          obtain ⟨vv, hvg, hvo⟩ := HL6.out
          have x2 : w6.cell? ⟨g, 2, none⟩ = some vv := by rw [cell_of_row w6 g 2 _ _ _ hvg]; rfl
          have VO := Lib.hid hvo
          have VG := Lib.hid hvg
          have hg6 := lt_of_get hvg
          have HN : Hid (∀ j, j < k + 1 → quad rs j ≠ 0) := fun j hj => by
            rcases Nat.lt_or_ge j k with h | h
            · exact hnz.out j h
            · obtain rfl : j = k := by omega
              rw [← HZ.out]; exact hz0
          clear hvg hvo hz0
          go_wp2_with (at_builtin; refine wp_app_int (ys := [z]) rfl _ _ rfl rfl rfl (VO.out.below (below_new _)) ((OwnI.fresh (w := w6) (B := 0) (k := .i64) (xs := [z]) (t := 3) (Nat.zero_le _) sp_int (by simp)).rds (B' := 0)).cell rfl (by simp; omega) (by rw [quadsN_len]; omega) ?_)
          intro v' w7 hv7 hg7 hb7
          have hg7' : w7.heap[g]? = some (.cells #[.slice A1 n1 c1, .slice A2 n2 c2, vv] 29 (0, 0)) :=
            (hb7.block _ (Nat.lt_succ_self g)).trans ((heap_alloc_old w6 _ hg6).trans VG.out)
          obtain ⟨A', c', hvs⟩ := hv7.slice
          rw [show (quadsN rs k ++ [z]).length = k + 1 from by simp [quadsN_len]] at hvs
          subst hvs
          have y2 : w7.cell? ⟨g, 2, none⟩ = some vv := by rw [cell_of_row w7 g 2 _ _ _ hg7']; rfl
          have f2 := frozen_of_row w7 g 2 _ _ hg7'
          have HL7 : Hid (LAt (w7.setCell ⟨g, 2, none⟩ (.slice A' (k + 1) c')) g 29 (.slice A1 n1 c1) (.slice A2 n2 c2) (quadsN rs (k + 1))) := by
            show LAt _ _ _ _ _ _
            rw [quadsN_succ, ← HZ.out]
            exact LAt.put hg7' hv7
          have HB7 : Hid (Below g w1 (w7.setCell ⟨g, 2, none⟩ (.slice A' (k + 1) c'))) :=
            ((HB6.out.alloc (Nat.le_of_lt hg6) _).trans (hb7.mono (Nat.le_succ g))).setCell (Nat.le_refl _) _
          clear hg7' hb7 hg7 hv7
          go_wp2_with fail
          go_roundw
          case rel => exact ⟨k + 1, by omega, by go_num, HL7.out, HB7.out, HN.out⟩
          case measure => simp [intOf]; omega
      · obtain ⟨vv, hvg, hvo⟩ := HLA.out
        have e4 : m = 4 * k := by omega
        have HL : Hid (readL xs = some (ts, fr, quadsN rs k)) := by
          have hmk : rs.length / 4 = k := by have := HM.out; omega
          have := HLy.out ⟨by simpa using hvb, by have := HM.out; simp only; omega, by have := HM.out; simp only; omega, by have := HM.out; simp only; omega, by simp only [hmk]; exact hnz.out⟩
          rw [hmk] at this
          exact this
        obtain ⟨A4, c4, hvs⟩ := hvo.slice
        rw [quadsN_len] at hvs
        subst hvs
        have y0 := cell_of_row wr g 0 _ _ _ hvg
        have y1 := cell_of_row wr g 1 _ _ _ hvg
        have y2 := cell_of_row wr g 2 _ _ _ hvg
        have HX6 : Hid (wr.heap[w.heap.size]? = some (.cells #[.slice none 0 0, .slice none 0 0, .slice none 0 0] 29 (0, 0))) := (HBW2.out.block _ hsw).trans HX1.out
        have HBz6 : Hid (Below w.heap.size w wr) := HBz.out.trans (HBW2.out.mono (Nat.le_of_lt hsw))
        have VO := Lib.hid hvo
        have hgw : g ≤ wr.heap.size := Nat.le_of_lt (lt_of_get hvg)
        clear hvg hvo
        simp only [List.getElem?_toArray, List.getElem?_cons_zero, List.getElem?_cons_succ] at y0 y1 y2
        go_wp2_with ((with_reducible show wpList _ _ _ (Oper.mk _ (Op.store 29 (.tmp 2) _) _ _ _ _ :: _) _ _); (refine wp_store_row rfl rfl _ _ _ rfl w.heap.size _ _ 29 rfl rfl list08_size HX6.out rfl (by simp [Value.oneCell']) ?_))
        obtain ⟨u, hu⟩ : ∃ u, u = World.setRow wr w.heap.size #[.slice A1 n1 c1, .slice A2 n2 c2, .slice A4 k c4] := ⟨_, rfl⟩
        rw [← hu]
        have hux : u.heap[w.heap.size]? = some (.cells #[.slice A1 n1 c1, .slice A2 n2 c2, .slice A4 k c4] 29 (0, 0)) := by rw [hu]; exact setRow_heap _ w.heap.size _ _ _ _ HX6.out
        have HBu : Hid (Below w.heap.size w u) := by rw [hu]; exact below_setRow HBz6.out (Nat.le_refl _) _
        have S1 : Hid (Rds u.heap.size u .u8 A1 n1 c1 ts) := by
          have h1 := R1.out.below (by rw [← HG.out]; exact HBW2.out)
          have h2 := rds8_setRow h1 (g := w.heap.size) #[.slice A1 n1 c1, .slice A2 n2 c2, .slice A4 k c4] (fun a p e => by have := AW1.out a (by have := HN1.out; omega) e; have := HSW.out; omega)
          rw [← hu] at h2
          exact h2.top
        have S2 : Hid (Rds u.heap.size u .u8 A2 n2 c2 fr) := by
          have h1 := R2.out.below (by rw [← HG.out]; exact HBW2.out)
          have h2 := rds8_setRow h1 (g := w.heap.size) #[.slice A1 n1 c1, .slice A2 n2 c2, .slice A4 k c4] (fun a p e => by have := AW2.out a (by have := HN2.out; omega) e; have := HSW.out; omega)
          rw [← hu] at h2
          exact h2.top
        have S3 : Hid (Rds u.heap.size u .i64 A4 k c4 (quadsN rs k)) := by
          have h1 : OwnI u w.heap.size .i64 (.slice A4 k c4) (quadsN rs k) := by
            rw [hu]
            exact (own8_setRow VO.out (by omega) _).mono (by omega)
          rw [show Value.slice A4 k c4 = .slice A4 (quadsN rs k).length c4 from by rw [quadsN_len]] at h1
          have h2 := h1.rds (B' := u.heap.size)
          rw [quadsN_len] at h2
          exact h2
        have z0 := cell_of_row u w.heap.size 0 _ _ _ hux
        have z1 := cell_of_row u w.heap.size 1 _ _ _ hux
        have z2 := cell_of_row u w.heap.size 2 _ _ _ hux
        clear hu hux
        refine bodyPost_ret (v := .tuple #[.agg #[.slice A1 n1 c1, .slice A2 n2 c2, .slice A4 k c4], .bool true]) (by simp [results, Try.results7, go_sem, z0, z1, z2]) rfl ?_
        rw [HL.out]
        refine ⟨HBu.out, A1, c1, A2, c2, A4, c4, ?_, ?_, ?_, ?_⟩
        · show _ = Ending.returned (.tuple #[.agg #[.slice A1 ts.length c1, .slice A2 fr.length c2, .slice A4 (quadsN rs k).length c4], .bool true])
          rw [HN1.out, HN2.out, quadsN_len]
        · show Rds u.heap.size u .u8 A1 ts.length c1 ts
          rw [HN1.out]; exact S1.out
        · show Rds u.heap.size u .u8 A2 fr.length c2 fr
          rw [HN2.out]; exact S2.out
        · show Rds u.heap.size u .i64 A4 (quadsN rs k).length c4 (quadsN rs k)
          rw [quadsN_len]; exact S3.out
end Go.Proofs.Ytomopjpfdmpgpaa

/- The reference's numbers: what they change of the world, exactly. No condition. -/
set_option linter.unusedVariables false
set_option linter.unusedSimpArgs false
namespace Go.Proofs.Ytomopjpfdmpgpaa
open Go Go.RowKit

def RNumdD (xs : List Int) (w : World) (e : Ending) (w' : World) : Prop := e = .returned (.int .i64 (numOf xs)) ∧ ∃ k, w' = w.drewN k
theorem rnumdD_of {r : Int} {xs : List Int} (h : r = numOf xs) {w w' : World} (hw : ∃ k, w' = w.drewN k) : RNumdD xs w (.returned (.int .i64 r)) w' := by
  subst h; exact ⟨rfl, hw⟩
set_option maxHeartbeats 1600000 in
theorem rnumd_four (b o c : Nat) (x0 x1 x2 x3 : Int) (w : World) (h0 : 0 ≤ x0) (k0 : x0 ≤ 255) (h1 : 0 ≤ x1) (k1 : x1 ≤ 255) (h2 : 0 ≤ x2) (k2 : x2 ≤ 255) (h3 : 0 ≤ x3) (k3 : x3 ≤ 255)
    (c0 : w.cell? ⟨b, o, none⟩ = some (.int .u8 x0)) (c1 : w.cell? ⟨b, o + 1, none⟩ = some (.int .u8 x1)) (c2 : w.cell? ⟨b, o + 2, none⟩ = some (.int .u8 x2)) (c3 : w.cell? ⟨b, o + 3, none⟩ = some (.int .u8 x3)) :
    Calls Try.prog 39 #[.slice (some ⟨b, o, none⟩) 4 c] w (RNumdD [x0, x1, x2, x3] w) := by
  by_cases t0 : x0 = 0
  rotate_left
  · have t0' : (x0 != 0) = true := by simp [t0]
    have T0 := Lib.hid t0; clear t0
    go_enter Try.func39, Try.ntmps39
    go_wp2
    go_ret
    exact rnumdD_of (by have := T0.out; simp [numOf, be4, nth]; omega) ⟨0, rfl⟩
  subst t0
  by_cases t1 : 1 < x1
  · go_enter Try.func39, Try.ntmps39
    go_wp2
    go_ret
    exact rnumdD_of (by simp [numOf, be4, nth]; omega) ⟨0, rfl⟩
  by_cases t2 : 65536 < 65536 * x1 + 256 * x2 + x3
  · go_enter Try.func39, Try.ntmps39
    go_wp2
    go_quiet (fail)
    go_wp2
    go_ret
    exact rnumdD_of (by simp [numOf, be4, nth]; omega) ⟨_, rfl⟩
  · go_enter Try.func39, Try.ntmps39
    go_wp2
    go_quiet (fail)
    go_wp2
    go_ret
    exact rnumdD_of (by simp [numOf, be4, nth]; omega) ⟨_, rfl⟩
theorem rnumd_any {B : Nat} (A : Option Addr) (c : Nat) (xs : List Int) (w : World) (h : Rds B w .u8 A 4 c xs) (hb : Byt xs) : Calls Try.prog 39 #[.slice A 4 c] w (RNumdD xs w) := by
  have hl := h.len
  obtain ⟨b, o, rfl, hc⟩ := h.cell.at_ (by omega)
  have e := list_four hl
  have := rnumd_four b o c (nth xs 0) (nth xs 1) (nth xs 2) (nth xs 3) w (hb.nth 0).1 (hb.nth 0).2 (hb.nth 1).1 (hb.nth 1).2 (hb.nth 2).1 (hb.nth 2).2 (hb.nth 3).1 (hb.nth 3).2 (hc 0 (by omega)) (hc 1 (by omega)) (hc 2 (by omega)) (hc 3 (by omega))
  rw [← e] at this
  exact this
/-- What a Retry's packet says. -/
structure Rt where
  v : Int
  tn : List Int
  fn : List Int
  tok : Int
  tag : Int
theorem set5 {W : World} {g : Nat} {T : TypeId} {a0 a1 a2 a3 a4 : Value} (h : W.heap[g]? = some (.cells #[a0, a1, a2, a3, a4] T (0, 0))) (b0 b1 b2 b3 b4 : Value) :
    (((((W.setCell ⟨g, 0, none⟩ b0).setCell ⟨g, 1, none⟩ b1).setCell ⟨g, 2, none⟩ b2).setCell ⟨g, 3, none⟩ b3).setCell ⟨g, 4, none⟩ b4).heap[g]? = some (.cells #[b0, b1, b2, b3, b4] T (0, 0)) := by
  have h0 := in_set h b0 (i := 0)
  have h1 := in_set h0 b1 (i := 1)
  have h2 := in_set h1 b2 (i := 2)
  have h3 := in_set h2 b3 (i := 3)
  exact in_set h3 b4 (i := 4)
def retryOk (h : Hd) : Prop := h.v ≠ 0 ∧ h.rs.length = 8 ∧ numOf (h.rs.take 4) ≠ 0 ∧ numOf (h.rs.drop 4) ≠ 0
open Classical in
noncomputable def readR (xs : List Int) : Option Rt := match startP xs 240 with
  | some h => if retryOk h then some ⟨h.v, h.tn, h.fn, numOf (h.rs.take 4), numOf (h.rs.drop 4)⟩ else none
  | none => none
def rt0 : Rt := ⟨0, [], [], 0, 0⟩
def RRPost (r : Option Rt) (V : Value) (w : World) (e : Ending) (w' : World) : Prop :=
  Below w.heap.size w w' ∧ ∃ A1 c1 A2 c2, e = .returned (.tuple #[.agg #[.int .i64 (r.getD rt0).v, .slice A1 (r.getD rt0).tn.length c1, .slice A2 (r.getD rt0).fn.length c2, .int .i64 (r.getD rt0).tok, .int .i64 (r.getD rt0).tag], V]) ∧ Rds w'.heap.size w' .u8 A1 (r.getD rt0).tn.length c1 (r.getD rt0).tn ∧ Rds w'.heap.size w' .u8 A2 (r.getD rt0).fn.length c2 (r.getD rt0).fn
theorem RRPost.none {V : Value} {w w' : World} (hb : Below w.heap.size w w') : RRPost .none V w (.returned (.tuple #[.agg #[.int .i64 0, .slice .none 0 0, .slice .none 0 0, .int .i64 0, .int .i64 0], V])) w' :=
  ⟨hb, .none, 0, .none, 0, rfl, Rds.nil _ _ _, Rds.nil _ _ _⟩
theorem retry08_size : (Try.prog.info? 38).map (·.size) = some 5 := by kernel_rfl
set_option maxHeartbeats 4000000 in
set_option maxRecDepth 100000 in
theorem readRetry08_any {B n c : Nat} {A : Option Addr} {xs : List Int} (w : World) (h : Rds B w .u8 A n c xs) (hb : Byt xs) :
    Calls Try.prog 9 #[.slice A n c] w (RRPost (readR xs) (.bool (readR xs).isSome) w) := by
  obtain ⟨W, hW⟩ : ∃ W, W = w.alloc (.cells #[.int .i64 0, .slice none 0 0, .slice none 0 0, .int .i64 0, .int .i64 0] 38) := ⟨_, rfl⟩
  have HBW : Hid (Below w.heap.size w W) := by rw [hW]; exact below_new _
  have HSW : Hid (W.heap.size = w.heap.size + 1) := by rw [hW]; show _ = _; simp
  have HXW : Hid (W.heap[w.heap.size]? = some (.cells #[.int .i64 0, .slice none 0 0, .slice none 0 0, .int .i64 0, .int .i64 0] 38 (0, 0))) := by rw [hW]; exact heap_alloc_new w _
  have key := start08_any (q := w.heap.size) 240 (by decide) (by decide) W (Nat.le_refl _) (h.below (by rw [hW]; exact below_new _)).top (fun a p e => (h.safe p a e).1) hb
  have HBY := Lib.hid hb
  clear h hb
  go_enter Try.func9, Try.ntmps9
  go_wp2_with fail
  rw [← hW]
  refine key.mono ?_
  clear key hW
  rintro e w1 ⟨hb1, hp⟩
  have HB1 := Lib.hid hb1
  have HX1 : Hid (w1.heap[w.heap.size]? = some (.cells #[.int .i64 0, .slice none 0 0, .slice none 0 0, .int .i64 0, .int .i64 0] 38 (0, 0))) := (hb1.block _ (lt_of_get HXW.out)).trans HXW.out
  have HBz : Hid (Below w.heap.size w w1) := below_next HBW.out HBW.out.size hb1
  clear hb1
  cases hst : startP xs 240 with
  | none =>
    rw [hst] at hp
    obtain ⟨v, A1, n1, c1, A2, n2, c2, A3, n3, c3, rfl⟩ := hp
    have HL : Hid (readR xs = none) := by show _ = _; unfold readR; rw [hst]
    clear hst
    go_wp2_with ((with_reducible show wpList _ _ _ (Oper.mk _ (Op.store 38 (.tmp 2) _) _ _ _ _ :: _) _ _); (refine wp_store_row rfl rfl _ _ _ rfl w.heap.size _ _ 38 rfl rfl retry08_size HX1.out rfl (by simp [Value.oneCell']) ?_))
    obtain ⟨u, hu⟩ : ∃ u, u = World.setRow w1 w.heap.size #[.int .i64 0, .slice none 0 0, .slice none 0 0, .int .i64 0, .int .i64 0] := ⟨_, rfl⟩
    rw [← hu]
    have hux : u.heap[w.heap.size]? = some (.cells #[.int .i64 0, .slice none 0 0, .slice none 0 0, .int .i64 0, .int .i64 0] 38 (0, 0)) := by rw [hu]; exact setRow_heap _ w.heap.size _ _ _ _ HX1.out
    have HBu : Hid (Below w.heap.size w u) := by rw [hu]; exact below_setRow HBz.out (Nat.le_refl _) _
    have z0 := cell_of_row u w.heap.size 0 _ _ _ hux
    have z1 := cell_of_row u w.heap.size 1 _ _ _ hux
    have z2 := cell_of_row u w.heap.size 2 _ _ _ hux
    have z3 := cell_of_row u w.heap.size 3 _ _ _ hux
    have z4 := cell_of_row u w.heap.size 4 _ _ _ hux
    clear hu hux
    refine bodyPost_ret (v := .tuple #[.agg #[.int .i64 0, .slice none 0 0, .slice none 0 0, .int .i64 0, .int .i64 0], .bool false]) (by simp [results, Try.results9, go_sem, z0, z1, z2, z3, z4]) rfl ?_
    rw [HL.out]
    exact RRPost.none HBu.out
  | some hd =>
    rw [hst] at hp
    obtain ⟨A1, c1, A2, c2, A3, c3, rfl, r1, r2, r3, w1', w2', -⟩ := hp
    obtain ⟨v, ts, fr, rs⟩ := hd
    have HBR : Hid (Byt rs) := (startP_some hst HBY.out).2.2.1
    simp only at r1 r2 r3 ⊢
    have HLn : Hid (¬ retryOk ⟨v, ts, fr, rs⟩ → readR xs = none) := by show _ → _; intro q; unfold readR; rw [hst]; simp only; rw [if_neg q]
    have HLy : Hid (retryOk ⟨v, ts, fr, rs⟩ → readR xs = some ⟨v, ts, fr, numOf (rs.take 4), numOf (rs.drop 4)⟩) := by show _ → _; intro q; unfold readR; rw [hst]; simp only; rw [if_pos q]
    clear hst
    obtain ⟨m, hm⟩ : ∃ m, rs.length = m := ⟨_, rfl⟩
    obtain ⟨n1, hn1⟩ : ∃ m, ts.length = m := ⟨_, rfl⟩
    obtain ⟨n2, hn2⟩ : ∃ m, fr.length = m := ⟨_, rfl⟩
    rw [hn1] at r1
    rw [hn2] at r2
    rw [hm] at r3
    have AW1 := Lib.hid w1'
    have AW2 := Lib.hid w2'
    clear w1' w2'
    simp only [hm, hn1, hn2]
    have HM := Lib.hid hm
    have HN1 := Lib.hid hn1
    have HN2 := Lib.hid hn2
    have R1 := Lib.hid r1
    have R2 := Lib.hid r2
    have R3 := Lib.hid r3
    have hmx := r3.max
    have hmc := r3.cap
    clear hn1 hn2 hm r1 r2 r3
    by_cases q1 : v = 0
    · have HL : Hid (readR xs = none) := HLn.out fun q => q.1 q1
      have hb : (v == 0) = true := by simp [q1]
      clear q1
      go_wp2_with ((with_reducible show wpList _ _ _ (Oper.mk _ (Op.store 38 (.tmp 2) _) _ _ _ _ :: _) _ _); (refine wp_store_row rfl rfl _ _ _ rfl w.heap.size _ _ 38 rfl rfl retry08_size HX1.out rfl (by simp [Value.oneCell']) ?_))
      obtain ⟨u, hu⟩ : ∃ u, u = World.setRow w1 w.heap.size #[.int .i64 0, .slice none 0 0, .slice none 0 0, .int .i64 0, .int .i64 0] := ⟨_, rfl⟩
      rw [← hu]
      have hux : u.heap[w.heap.size]? = some (.cells #[.int .i64 0, .slice none 0 0, .slice none 0 0, .int .i64 0, .int .i64 0] 38 (0, 0)) := by rw [hu]; exact setRow_heap _ w.heap.size _ _ _ _ HX1.out
      have HBu : Hid (Below w.heap.size w u) := by rw [hu]; exact below_setRow HBz.out (Nat.le_refl _) _
      have z0 := cell_of_row u w.heap.size 0 _ _ _ hux
      have z1 := cell_of_row u w.heap.size 1 _ _ _ hux
      have z2 := cell_of_row u w.heap.size 2 _ _ _ hux
      have z3 := cell_of_row u w.heap.size 3 _ _ _ hux
      have z4 := cell_of_row u w.heap.size 4 _ _ _ hux
      clear hu hux
      refine bodyPost_ret (v := .tuple #[.agg #[.int .i64 0, .slice none 0 0, .slice none 0 0, .int .i64 0, .int .i64 0], .bool false]) (by simp [results, Try.results9, go_sem, z0, z1, z2, z3, z4]) rfl ?_
      rw [HL.out]
      exact RRPost.none HBu.out
    have hvb : (v == 0) = false := by simp [q1]
    by_cases q2 : m = 8
    rotate_left
    · have HL : Hid (readR xs = none) := HLn.out fun q => q2 (by rw [← HM.out]; exact q.2.1)
      have hb : ((m : Int) != 8) = true := by rw [bne_iff_ne]; omega
      clear q1
      go_wp2_with ((with_reducible show wpList _ _ _ (Oper.mk _ (Op.store 38 (.tmp 2) _) _ _ _ _ :: _) _ _); (refine wp_store_row rfl rfl _ _ _ rfl w.heap.size _ _ 38 rfl rfl retry08_size HX1.out rfl (by simp [Value.oneCell']) ?_))
      obtain ⟨u, hu⟩ : ∃ u, u = World.setRow w1 w.heap.size #[.int .i64 0, .slice none 0 0, .slice none 0 0, .int .i64 0, .int .i64 0] := ⟨_, rfl⟩
      rw [← hu]
      have hux : u.heap[w.heap.size]? = some (.cells #[.int .i64 0, .slice none 0 0, .slice none 0 0, .int .i64 0, .int .i64 0] 38 (0, 0)) := by rw [hu]; exact setRow_heap _ w.heap.size _ _ _ _ HX1.out
      have HBu : Hid (Below w.heap.size w u) := by rw [hu]; exact below_setRow HBz.out (Nat.le_refl _) _
      have z0 := cell_of_row u w.heap.size 0 _ _ _ hux
      have z1 := cell_of_row u w.heap.size 1 _ _ _ hux
      have z2 := cell_of_row u w.heap.size 2 _ _ _ hux
      have z3 := cell_of_row u w.heap.size 3 _ _ _ hux
      have z4 := cell_of_row u w.heap.size 4 _ _ _ hux
      clear hu hux
      refine bodyPost_ret (v := .tuple #[.agg #[.int .i64 0, .slice none 0 0, .slice none 0 0, .int .i64 0, .int .i64 0], .bool false]) (by simp [results, Try.results9, go_sem, z0, z1, z2, z3, z4]) rfl ?_
      rw [HL.out]
      exact RRPost.none HBu.out
    subst q2
    obtain ⟨b, o, rfl, hcx⟩ := RdI.at_ R3.out.cell (by have := HM.out; omega)
    clear hcx
    have hc4 : ¬ c3 = 4 := by omega
    have hc0 : ¬ c3 = 0 := by omega
    have hc4i : (4 : Int) ≤ (c3 : Int) := by omega
    obtain ⟨x1, hx1⟩ : ∃ x, x = numOf (rs.take 4) := ⟨_, rfl⟩
    obtain ⟨x2, hx2⟩ : ∃ x, x = numOf (rs.drop 4) := ⟨_, rfl⟩
    have K1 : Hid (∀ u, Below w1.heap.size w1 u → Calls Try.prog 39 #[.slice (some ⟨b, o, none⟩) 4 c3] u fun e u' => e = .returned (.int .i64 x1) ∧ ∃ k, u' = u.drewN k) := by
      intro u hu
      have := rnumd_any _ _ _ u ((R3.out.below hu).take (m := 4) (by omega)) (fun x hx => HBR.out x (List.mem_of_mem_take hx))
      rw [hx1]; exact this
    have K2 : Hid (∀ u, Below w1.heap.size w1 u → Calls Try.prog 39 #[.slice (some ⟨b, o + 4, none⟩) 4 (c3 - 4)] u fun e u' => e = .returned (.int .i64 x2) ∧ ∃ k, u' = u.drewN k) := by
      intro u hu
      have h2 := (R3.out.below hu).cut (l := 4) (by omega)
      rw [show cutA (some ⟨b, o, none⟩) 4 c3 = some ⟨b, o + 4, none⟩ from by unfold cutA; rw [if_neg hc4]; rfl] at h2
      have := rnumd_any _ _ _ u h2 (byt_dropL HBR.out _)
      rw [hx2]; exact this
    have X1 := Lib.hid hx1
    have X2 := Lib.hid hx2
    clear hx1 hx2 q1
    go_wp2_with fail
    have hO : ∀ k, ((w1.drewN k).alloc (.cells #[.int .i64 0, .slice none 0 0, .slice none 0 0, .int .i64 0, .int .i64 0] 38)).heap[w1.heap.size]? = some (.cells #[.int .i64 0, .slice none 0 0, .slice none 0 0, .int .i64 0, .int .i64 0] 38 (0, 0)) := fun k => heap_alloc_new (w1.drewN k) _
    have o0 : ∀ k, ((w1.drewN k).alloc (.cells #[.int .i64 0, .slice none 0 0, .slice none 0 0, .int .i64 0, .int .i64 0] 38)).cell? ⟨w1.heap.size, 0, none⟩ = some (.int .i64 0) := fun k => by rw [cell_of_row _ w1.heap.size 0 _ _ _ (hO k)]; rfl
    have p0 : ∀ k, ((w1.drewN k).alloc (.cells #[.int .i64 0, .slice none 0 0, .slice none 0 0, .int .i64 0, .int .i64 0] 38)).frozen? ⟨w1.heap.size, 0, none⟩ = false := fun k => frozen_of_row _ _ _ _ _ (hO k)
    have o1 : ∀ k, ((w1.drewN k).alloc (.cells #[.int .i64 0, .slice none 0 0, .slice none 0 0, .int .i64 0, .int .i64 0] 38)).cell? ⟨w1.heap.size, 1, none⟩ = some (.slice none 0 0) := fun k => by rw [cell_of_row _ w1.heap.size 1 _ _ _ (hO k)]; rfl
    have p1 : ∀ k, ((w1.drewN k).alloc (.cells #[.int .i64 0, .slice none 0 0, .slice none 0 0, .int .i64 0, .int .i64 0] 38)).frozen? ⟨w1.heap.size, 1, none⟩ = false := fun k => frozen_of_row _ _ _ _ _ (hO k)
    have o2 : ∀ k, ((w1.drewN k).alloc (.cells #[.int .i64 0, .slice none 0 0, .slice none 0 0, .int .i64 0, .int .i64 0] 38)).cell? ⟨w1.heap.size, 2, none⟩ = some (.slice none 0 0) := fun k => by rw [cell_of_row _ w1.heap.size 2 _ _ _ (hO k)]; rfl
    have p2 : ∀ k, ((w1.drewN k).alloc (.cells #[.int .i64 0, .slice none 0 0, .slice none 0 0, .int .i64 0, .int .i64 0] 38)).frozen? ⟨w1.heap.size, 2, none⟩ = false := fun k => frozen_of_row _ _ _ _ _ (hO k)
    have o3 : ∀ k, ((w1.drewN k).alloc (.cells #[.int .i64 0, .slice none 0 0, .slice none 0 0, .int .i64 0, .int .i64 0] 38)).cell? ⟨w1.heap.size, 3, none⟩ = some (.int .i64 0) := fun k => by rw [cell_of_row _ w1.heap.size 3 _ _ _ (hO k)]; rfl
    have p3 : ∀ k, ((w1.drewN k).alloc (.cells #[.int .i64 0, .slice none 0 0, .slice none 0 0, .int .i64 0, .int .i64 0] 38)).frozen? ⟨w1.heap.size, 3, none⟩ = false := fun k => frozen_of_row _ _ _ _ _ (hO k)
    have o4 : ∀ k, ((w1.drewN k).alloc (.cells #[.int .i64 0, .slice none 0 0, .slice none 0 0, .int .i64 0, .int .i64 0] 38)).cell? ⟨w1.heap.size, 4, none⟩ = some (.int .i64 0) := fun k => by rw [cell_of_row _ w1.heap.size 4 _ _ _ (hO k)]; rfl
    have p4 : ∀ k, ((w1.drewN k).alloc (.cells #[.int .i64 0, .slice none 0 0, .slice none 0 0, .int .i64 0, .int .i64 0] 38)).frozen? ⟨w1.heap.size, 4, none⟩ = false := fun k => frozen_of_row _ _ _ _ _ (hO k)
    clear hO
    go_region_law ((go_simp; go_at_call 39; (first
      | (with_reducible refine (K1.out _ ?_).mono ?_)
      | (with_reducible refine (K2.out _ ?_).mono ?_)); (next => repeat (first | (with_reducible exact Below.refl _ _) | (with_reducible refine Below.drew ?_) | (with_reducible refine below_drewN ?_ _) | (with_reducible refine Below.alloc ?_ (by simp) _))); rintro e w6 ⟨rfl, k6, rfl⟩))
    all_goals
      clear o0 o1 o2 o3 o4 p0 p1 p2 p3 p4
      generalize hU : World.setCell _ ⟨w1.heap.size, 4, none⟩ _ = U
      have hUg : U.heap[w1.heap.size]? = some (.cells #[.int .i64 v, .slice A1 n1 c1, .slice A2 n2 c2, .int .i64 x1, .int .i64 x2] 38 (0, 0)) := by
        rw [← hU]
        refine set5 (a0 := .int .i64 0) (a1 := .slice none 0 0) (a2 := .slice none 0 0) (a3 := .int .i64 0) (a4 := .int .i64 0) ?_ _ _ _ _ _
        first | exact heap_alloc_new w1 _ | exact heap_alloc_new (w1.drewN _) _
      have HBU : Hid (Below w1.heap.size w1 U) := by
        rw [← hU]
        show Below _ _ _
        repeat (first | (with_reducible exact Below.refl _ _) | (refine Below.setCell ?_ (Nat.le_refl w1.heap.size) _) | (with_reducible refine Below.drew ?_) | (with_reducible refine below_drewN ?_ _) | (with_reducible refine Below.alloc ?_ (by simp) _))
      have y0 := cell_of_row U w1.heap.size 0 _ _ _ hUg
      have y1 := cell_of_row U w1.heap.size 1 _ _ _ hUg
      have y2 := cell_of_row U w1.heap.size 2 _ _ _ hUg
      have y3 := cell_of_row U w1.heap.size 3 _ _ _ hUg
      have y4 := cell_of_row U w1.heap.size 4 _ _ _ hUg
      have HXU : Hid (U.heap[w.heap.size]? = some (.cells #[.int .i64 0, .slice none 0 0, .slice none 0 0, .int .i64 0, .int .i64 0] 38 (0, 0))) := (HBU.out.block _ (lt_of_get HX1.out)).trans HX1.out
      have HBzU : Hid (Below w.heap.size w U) := below_next HBz.out HBz.out.size HBU.out
      clear hU hUg
      by_cases e1 : x1 = 0
      · have HL : Hid (readR xs = none) := HLn.out fun q => q.2.2.1 (by rw [← X1.out]; exact e1)
        have hb : (x1 == 0) = true := by simp [e1]
        clear e1
        go_wp2_with ((with_reducible show wpList _ _ _ (Oper.mk _ (Op.store 38 (.tmp 2) _) _ _ _ _ :: _) _ _); (refine wp_store_row rfl rfl _ _ _ rfl w.heap.size _ _ 38 rfl rfl retry08_size HXU.out rfl (by simp [Value.oneCell']) ?_))
        obtain ⟨u, hu⟩ : ∃ u, u = World.setRow U w.heap.size #[.int .i64 0, .slice none 0 0, .slice none 0 0, .int .i64 0, .int .i64 0] := ⟨_, rfl⟩
        rw [← hu]
        have hux : u.heap[w.heap.size]? = some (.cells #[.int .i64 0, .slice none 0 0, .slice none 0 0, .int .i64 0, .int .i64 0] 38 (0, 0)) := by rw [hu]; exact setRow_heap _ w.heap.size _ _ _ _ HXU.out
        have HBu : Hid (Below w.heap.size w u) := by rw [hu]; exact below_setRow HBzU.out (Nat.le_refl _) _
        have z0 := cell_of_row u w.heap.size 0 _ _ _ hux
        have z1 := cell_of_row u w.heap.size 1 _ _ _ hux
        have z2 := cell_of_row u w.heap.size 2 _ _ _ hux
        have z3 := cell_of_row u w.heap.size 3 _ _ _ hux
        have z4 := cell_of_row u w.heap.size 4 _ _ _ hux
        clear hu hux
        refine bodyPost_ret (v := .tuple #[.agg #[.int .i64 0, .slice none 0 0, .slice none 0 0, .int .i64 0, .int .i64 0], .bool false]) (by simp [results, Try.results9, go_sem, z0, z1, z2, z3, z4]) rfl ?_
        rw [HL.out]
        exact RRPost.none HBu.out
      have e1b : (x1 == 0) = false := by simp [e1]
      by_cases e2 : x2 = 0
      · have HL : Hid (readR xs = none) := HLn.out fun q => q.2.2.2 (by rw [← X2.out]; exact e2)
        have hb : (x2 == 0) = true := by simp [e2]
        clear e1 e2
        go_wp2_with ((with_reducible show wpList _ _ _ (Oper.mk _ (Op.store 38 (.tmp 2) _) _ _ _ _ :: _) _ _); (refine wp_store_row rfl rfl _ _ _ rfl w.heap.size _ _ 38 rfl rfl retry08_size HXU.out rfl (by simp [Value.oneCell']) ?_))
        obtain ⟨u, hu⟩ : ∃ u, u = World.setRow U w.heap.size #[.int .i64 0, .slice none 0 0, .slice none 0 0, .int .i64 0, .int .i64 0] := ⟨_, rfl⟩
        rw [← hu]
        have hux : u.heap[w.heap.size]? = some (.cells #[.int .i64 0, .slice none 0 0, .slice none 0 0, .int .i64 0, .int .i64 0] 38 (0, 0)) := by rw [hu]; exact setRow_heap _ w.heap.size _ _ _ _ HXU.out
        have HBu : Hid (Below w.heap.size w u) := by rw [hu]; exact below_setRow HBzU.out (Nat.le_refl _) _
        have z0 := cell_of_row u w.heap.size 0 _ _ _ hux
        have z1 := cell_of_row u w.heap.size 1 _ _ _ hux
        have z2 := cell_of_row u w.heap.size 2 _ _ _ hux
        have z3 := cell_of_row u w.heap.size 3 _ _ _ hux
        have z4 := cell_of_row u w.heap.size 4 _ _ _ hux
        clear hu hux
        refine bodyPost_ret (v := .tuple #[.agg #[.int .i64 0, .slice none 0 0, .slice none 0 0, .int .i64 0, .int .i64 0], .bool false]) (by simp [results, Try.results9, go_sem, z0, z1, z2, z3, z4]) rfl ?_
        rw [HL.out]
        exact RRPost.none HBu.out
      have e2b : (x2 == 0) = false := by simp [e2]
      have HL : Hid (readR xs = some ⟨v, ts, fr, x1, x2⟩) := by
        rw [X1.out, X2.out]
        exact HLy.out ⟨by simpa using hvb, HM.out, by rw [← X1.out]; exact e1, by rw [← X2.out]; exact e2⟩
      clear e1 e2
      go_wp2_with ((with_reducible show wpList _ _ _ (Oper.mk _ (Op.store 38 (.tmp 2) _) _ _ _ _ :: _) _ _); (refine wp_store_row rfl rfl _ _ _ rfl w.heap.size _ _ 38 rfl rfl retry08_size HXU.out rfl (by simp [Value.oneCell']) ?_))
      obtain ⟨u, hu⟩ : ∃ u, u = World.setRow U w.heap.size #[.int .i64 v, .slice A1 n1 c1, .slice A2 n2 c2, .int .i64 x1, .int .i64 x2] := ⟨_, rfl⟩
      rw [← hu]
      have hux : u.heap[w.heap.size]? = some (.cells #[.int .i64 v, .slice A1 n1 c1, .slice A2 n2 c2, .int .i64 x1, .int .i64 x2] 38 (0, 0)) := by rw [hu]; exact setRow_heap _ w.heap.size _ _ _ _ HXU.out
      have HBu : Hid (Below w.heap.size w u) := by rw [hu]; exact below_setRow HBzU.out (Nat.le_refl _) _
      have S1 : Hid (Rds u.heap.size u .u8 A1 n1 c1 ts) := by
        have h2 := rds8_setRow (R1.out.below HBU.out) (g := w.heap.size) #[.int .i64 v, .slice A1 n1 c1, .slice A2 n2 c2, .int .i64 x1, .int .i64 x2] (fun a p e => by have := AW1.out a (by have := HN1.out; omega) e; have := HSW.out; omega)
        rw [← hu] at h2
        exact h2.top
      have S2 : Hid (Rds u.heap.size u .u8 A2 n2 c2 fr) := by
        have h2 := rds8_setRow (R2.out.below HBU.out) (g := w.heap.size) #[.int .i64 v, .slice A1 n1 c1, .slice A2 n2 c2, .int .i64 x1, .int .i64 x2] (fun a p e => by have := AW2.out a (by have := HN2.out; omega) e; have := HSW.out; omega)
        rw [← hu] at h2
        exact h2.top
      have z0 := cell_of_row u w.heap.size 0 _ _ _ hux
      have z1 := cell_of_row u w.heap.size 1 _ _ _ hux
      have z2 := cell_of_row u w.heap.size 2 _ _ _ hux
      have z3 := cell_of_row u w.heap.size 3 _ _ _ hux
      have z4 := cell_of_row u w.heap.size 4 _ _ _ hux
      clear hu hux
      refine bodyPost_ret (v := .tuple #[.agg #[.int .i64 v, .slice A1 n1 c1, .slice A2 n2 c2, .int .i64 x1, .int .i64 x2], .bool true]) (by simp [results, Try.results9, go_sem, z0, z1, z2, z3, z4]) rfl ?_
      rw [HL.out]
      refine ⟨HBu.out, A1, c1, A2, c2, ?_, ?_, ?_⟩
      · show _ = Ending.returned (.tuple #[.agg #[.int .i64 v, .slice A1 ts.length c1, .slice A2 fr.length c2, .int .i64 x1, .int .i64 x2], .bool true])
        rw [HN1.out, HN2.out]
      · show Rds u.heap.size u .u8 A1 ts.length c1 ts
        rw [HN1.out]; exact S1.out
      · show Rds u.heap.size u .u8 A2 fr.length c2 fr
        rw [HN2.out]; exact S2.out
end Go.Proofs.Ytomopjpfdmpgpaa
