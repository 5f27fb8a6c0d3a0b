/- slices.Collect at the parts of slices.Chunk. No condition. -/
import Derived.Test.YtbfgoojpbhlboaaDoorChunk
set_option linter.unusedVariables false
set_option linter.unusedSimpArgs false
namespace Go.Proofs.YtbfgoojpbhlboaaDoor
open Go Go.RowKit
attribute [local go_sem] Oper.semAt_some

/-- A row that holds parts, one behind the other. -/
structure PartsAt (B : Nat) (A : Option Addr) (k : Nat) (v : Value) (W : World) (X : List Value) : Prop where
  row : W.ownsRow B 22 1 v k X
  part : ∀ j, j < k → X[j]? = some (.slice (A.map (·.add (4 * j))) 4 4)
theorem owns_lp {W W' : World} {B E : Nat} {e : TypeId} {v : Value} {k : Nat} {X : List Value} (h : W.ownsRow B e 1 v k X) (hf : Frm lpO E W W') : W'.ownsRow B e 1 v k X := by
  refine ⟨h.1, h.2.imp id ?_⟩
  rintro ⟨g, cap, cur, h1, h2, h3, h4⟩
  exact ⟨g, cap, cur, h1, h2, cells8_lp h3 hf, h4⟩
theorem PartsAt.lp {B E : Nat} {A : Option Addr} {k : Nat} {v : Value} {W W' : World} {X : List Value} (h : PartsAt B A k v W X) (hf : Frm lpO E W W') : PartsAt B A k v W' X := ⟨owns_lp h.row hf, h.part⟩
theorem Rds.offs {B : Nat} {w w' : World} {k : IntKind} {A : Option Addr} {n c : Nat} {xs : List Int} (h : Rds B w k A n c xs) (ho : ∀ a, 0 < n → A = some a → w'.heap[a.block]? = w.heap[a.block]?) (hs : w.heap.size ≤ w'.heap.size) : Rds B w' k A n c xs := by
  refine ⟨h.len, h.cap, h.max, fun j hj => ?_, fun p a e => ?_⟩
  · obtain ⟨ad, e, hc⟩ := h.cell j hj
    refine ⟨ad, e, ?_⟩
    rw [← hc]
    exact World.cell?_of_block (by rw [add_block]; exact ho ad (by have := h.len; omega) e)
  · have hk := h.safe p a e
    refine ⟨Nat.lt_of_lt_of_le hk.1 hs, hk.2.imp id ?_⟩
    rintro ⟨cs', t, fr, q1, q2⟩
    exact ⟨cs', t, fr, (ho a p e).trans q1, q2⟩
/-- What stands between two rounds. -/
structure CI (w : World) (D s0 s1 : Nat) (A : Option Addr) (n c : Nat) (rs : List Int) (k : Nat) (W : World) : Prop where
  bx : ∃ v X, W.heap[w.heap.size]? = some (.cells #[v] 88 (0, 0)) ∧ PartsAt (w.heap.size + 1) A k v W X
  r : cRd D s0 s1 A n c rs W
  bl : Below w.heap.size w W
theorem CI.lp {w : World} {D s0 s1 : Nat} {A : Option Addr} {n c : Nat} {rs : List Int} {k : Nat} {W W' : World} (h : CI w D s0 s1 A n c rs k W) {E : Nat} (hf : Frm lpO E W W') (hD : D ≤ E) (hE : w.heap.size ≤ E) : CI w D s0 s1 A n c rs k W' := by
  obtain ⟨v, X, h1, h2⟩ := h.bx
  exact ⟨⟨v, X, cells8_lp h1 hf, h2.lp hf⟩, ⟨cells8_lp h.r.1 hf, cells8_lp h.r.2.1 hf, rds8_lp h.r.2.2 hf hD⟩, h.bl.trans ((hf.weak hE).below h.bl.size)⟩
theorem info_bytes : (Tryd.prog.info? 22).map (fun i => (i.zero, i.size, i.bytes)) = some (some (.slice none 0 0), 1, 24) := by kernel_rfl
theorem cell_one7 (w : World) (u : Value) (t : TypeId) : ∀ j x, [u][j]? = some x → (w.alloc (.cells #[u] t)).cell? ((⟨w.heap.size, 0, none⟩ : Addr).add j) = some x := cell_one_new _ _ _
/-- What a round's append leaves. -/
theorem CI.app {w : World} {D s0 s1 : Nat} {A : Option Addr} {n c : Nat} {rs : List Int} {k : Nat} {W : World} (h : CI w D s0 s1 A n c rs k W) {v : Value} {X : List Value} (hv : W.heap[w.heap.size]? = some (.cells #[v] 88 (0, 0))) (hp : PartsAt (w.heap.size + 1) A k v W X)
    (hk : k ≤ 250000) (hA : ∀ a, 0 < n → A = some a → a.block < w.heap.size) (h0 : s0 < w.heap.size) (h1 : s1 < w.heap.size) :
    ∃ A5 c5 v' U, v' = .slice A5 (k + 1) c5 ∧ (Builtin.append_ #[88, 88] 88 #[v, .slice (some ⟨W.heap.size, 0, none⟩) 1 1]).run Tryd.prog (W.alloc (.cells #[.slice (A.map (·.add (4 * k))) 4 4] 22)) = .ok v' U ∧ U.frozen? ⟨w.heap.size, 0, none⟩ = false ∧ U.cell? ⟨w.heap.size, 0, none⟩ = some v ∧
      Keep8 W (U.setCell ⟨w.heap.size, 0, none⟩ v') ∧ CI w D s0 s1 A n c rs (k + 1) (U.setCell ⟨w.heap.size, 0, none⟩ v') := by
  obtain ⟨i, hi, hz0, hz1, hz2⟩ := info_parts info_bytes
  have hgl := lt_of_get hv
  obtain ⟨v', U, hrun, q1, q2, q3⟩ := run_append_own (P := Tryd.prog) (W.alloc (.cells #[.slice (A.map (·.add (4 * k))) 4 4] 22)) (w.heap.size + 1) 88 88 22 i (.slice none 0 0) 1 24 Tryd.underlying88 hi hz0 hz1 hz2 rfl (by decide) v k X (hp.row.alloc _)
    ⟨W.heap.size, 0, none⟩ 1 1 [.slice (A.map (·.add (4 * k))) 4 4] rfl (cell_one7 _ _ _) (by simp [Value.oneCell']) (by simp only [maxLen]; omega) (by omega) (by simp; omega)
  have hU : ∀ q, q < W.heap.size → some q ≠ v.ownBlock → U.heap[q]? = W.heap[q]? := fun q hq hne => (q2.block q (by simp; omega) hne).trans (Below.heap_alloc _ _ q hq)
  have hlow : ∀ q, q ≤ w.heap.size → some q ≠ v.ownBlock := fun q hq e => by have := (hp.row.lt q e.symm).1; omega
  have hUs : W.heap.size ≤ U.heap.size := by have := q2.size; simp at this; omega
  have hu : U.heap[w.heap.size]? = some (.cells #[v] 88 (0, 0)) := (hU _ hgl (hlow _ (Nat.le_refl _))).trans hv
  have hS : ∀ q, q < w.heap.size → (U.setCell ⟨w.heap.size, 0, none⟩ v').heap[q]? = W.heap[q]? := fun q hq => (Below.heap_setCell U ⟨w.heap.size, 0, none⟩ v' q (by simp; omega)).trans (hU q (by omega) (hlow q (by omega)))
  obtain ⟨A5, c5, hA5⟩ : ∃ A5 c5, v' = .slice A5 (k + 1) c5 := by
    rcases q1.2 with ⟨_, z⟩ | ⟨g', cap', cur', e, _⟩
    · omega
    · exact ⟨_, _, e⟩
  refine ⟨A5, c5, v', U, hA5, hrun, frozen_of_row U _ 0 _ _ hu, by rw [cell_of_row U _ 0 _ _ _ hu]; rfl, ?_, ?_⟩
  · intro q o hq hl
    have hql := lt_of_get hq
    have n1 : q ≠ w.heap.size := fun e => by rw [e, hv] at hq; cases hq; cases hl
    have n2 : some q ≠ v.ownBlock := fun e => by
      rcases hp.row.2 with ⟨rfl, _⟩ | ⟨g', cap, cur, rfl, _, hg, _⟩
      · cases e
      · simp [Value.ownBlock] at e
        subst e
        rw [hg] at hq; cases hq; cases hl
    exact (Below.heap_setCell U ⟨w.heap.size, 0, none⟩ v' q n1).trans ((hU q hql n2).trans hq)
  · refine ⟨⟨v', X ++ [.slice (A.map (·.add (4 * k))) 4 4], ?_, ?_, ?_⟩, ⟨(hS _ h0).trans h.r.1, (hS _ h1).trans h.r.2.1, h.r.2.2.offs (fun a p e => hS _ (hA a p e)) ?_⟩, ?_⟩
    · have e : U.setCell ⟨w.heap.size, 0, none⟩ v' = U.setRow w.heap.size #[v'] := setCell_eq_setRow U w.heap.size 0 #[v] 88 (0, 0) v' hu
      rw [e]; exact setRow_heap U _ _ _ _ _ hu
    · refine q1.kept (row := some w.heap.size) ?_ ?_
      · exact ⟨rfl, rfl, rfl, by simp [World.setCell], fun q _ hq => Below.heap_setCell U ⟨w.heap.size, 0, none⟩ v' q fun e => hq (by rw [e])⟩
      · refine .inr fun e => ?_
        have := (q1.lt _ e).1
        omega
    · intro j hj
      have hl : X.length = k := by have := hp.row.1; omega
      rcases Nat.lt_or_ge j k with q | q
      · rw [List.getElem?_append_left (by omega)]
        exact hp.part j q
      · obtain rfl : j = k := by omega
        rw [List.getElem?_append_right (by omega), hl, Nat.sub_self]
        rfl
    · show W.heap.size ≤ (U.setCell _ _).heap.size
      simp [World.setCell]; exact hUs
    · refine Below.setCell ?_ (show w.heap.size ≤ w.heap.size from Nat.le_refl _) _
      refine Below.grown ((h.bl).alloc h.bl.size _) q2 (by have := h.bl.size; simp; omega) (fun q e => ?_)
      have := (hp.row.lt q e).1
      omega
def kAx (A : Option Addr) (g : Nat) (sv : Value) (k : Nat) (x : Option Addr) (a : Act) (W : World) : Prop := x = A.map (·.add (4 * k)) ∧ a = { tmps := #[.slice none 0 0, sv, .pointer (some ⟨g, 0, none⟩), undef, .slice none 0 0, .slice x 4 4, sv, .slice x 4 4, undef, undef, undef, undef, undef], defers := [] }
set_option maxHeartbeats 6400000 in
set_option maxRecDepth 100000 in
theorem appendSeq_any {D s0 s1 n c : Nat} {A : Option Addr} {rs : List Int} (w : World) (hn : 4 * (n / 4) = n) (hn6 : n ≤ 1000000) (hD : D ≤ w.heap.size) (hr : cRd D s0 s1 A n c rs w) :
    Calls Tryd.prog 131 #[.slice none 0 0, .func (.func 132) #[] #[.pointer (some ⟨s0, 0, none⟩), .pointer (some ⟨s1, 0, none⟩)]] w fun e w' =>
      ∃ v X, e = .returned v ∧ PartsAt (w.heap.size + 1) A (n / 4) v w' X ∧ Below w.heap.size w w' := by
  have HR := Lib.hid hr
  have HD := Lib.hid hD
  have HN := Lib.hid hn
  have HN6 := Lib.hid hn6
  clear hr hD hn hn6
  refine (callsIn_wide (n := 2)).1 ?_
  refine callsIn_of_wp_marks Tryd.func131 rfl trivial ?_ rfl
  simp only [Tryd.ntmps131, List.size_toArray, List.length_cons, List.length_nil, Nat.reduceAdd, Nat.reduceSub, Array.replicate_succ, Array.replicate_zero, List.push_toArray, List.append_toArray, List.nil_append, List.cons_append]
  gi_wp2
  obtain ⟨V, hV⟩ : ∃ V, V = w.alloc (.cells #[.slice none 0 0] 88) := ⟨_, rfl⟩
  have hb3 : Below w.heap.size w V := by rw [hV]; exact below_new _
  have hVs : V.heap.size = w.heap.size + 1 := by rw [hV]; simp
  have HVS := Lib.hid hVs
  have hv0 : V.heap[w.heap.size]? = some (.cells #[.slice none 0 0] 88 (0, 0)) := by rw [hV]; exact heap_alloc_new w _
  have HI0 : Hid (CI w D s0 s1 A n c rs 0 V) := ⟨⟨_, [], hv0, ⟨rfl, .inl ⟨rfl, rfl⟩⟩, fun j hj => absurd hj (Nat.not_lt_zero j)⟩, ⟨(hb3.block _ (lt_of_get HR.out.1)).trans HR.out.1, (hb3.block _ (lt_of_get HR.out.2.1)).trans HR.out.2.1, HR.out.2.2.below hb3⟩, hb3⟩
  rw [← hV]
  clear hV hb3 hv0 hVs
  refine range_givesR (m := 0) (gf := 132) (lb := #[.pointer (some ⟨s0, 0, none⟩), .pointer (some ⟨s1, 0, none⟩)]) rfl (enters_of Tryd.func132 (by kernel_rfl) rfl)
    (chunk_gives (B := D) (s0 := s0) (s1 := s1) (A := A) (n := n) (c := c) (rs := rs) (N := n / 4) 0 HN.out HN6.out) (fun x => rfl)
    (fun k W' => CI w D s0 s1 A n c rs k W') (fun W' => False) (kAx A w.heap.size (.func (.func 132) #[] #[.pointer (some ⟨s0, 0, none⟩), .pointer (some ⟨s1, 0, none⟩)]))
    (fun k W1 W2 h hf => h.lp hf (by have := HD.out; have := HVS.out; omega) (by have := HVS.out; omega)) (fun W1 W2 h hf => h) (fun k x a W1 W2 h hf => h) (fun k W' h => h.r) HI0.out ?assign ?body ?done ?stop
  case assign =>
    intro l k x W2 K hI hN hGd hK
    simp only [cEnc]
    gi_wp2
    exact hK _ _ (Below.refl _ _) ⟨hGd.2, rfl⟩
  case body =>
    intro l k x a₁ W2 hkN hI hax
    obtain ⟨rfl, rfl⟩ := hax
    obtain ⟨v, X, hv, hp⟩ := hI.bx
    obtain ⟨A5, c5, v', U, rfl, hrun, hf, hc, hk8, hn⟩ := hI.app hv hp (by have := HN6.out; omega) (fun a p e => (HR.out.2.2.safe p a e).1) (lt_of_get HR.out.1) (lt_of_get HR.out.2.1)
    have b0 : W2.cell? ⟨w.heap.size, 0, none⟩ = some v := by rw [cell_of_row W2 _ 0 _ _ _ hv]; rfl
    have HK8 := Lib.hid hk8
    have HNx := Lib.hid hn
    clear hI hv hp hk8 hn
    gi_wp2_with (gi_at_builtin; refine wpIn_app_run8 rfl _ _ 88 rfl rfl rfl hrun ?_)
    exact ⟨HK8.out, HNx.out⟩
  case done =>
    intro W hI hdf
    obtain ⟨v, X, hv, hp⟩ := hI.bx
    have b0 : W.cell? ⟨w.heap.size, 0, none⟩ = some v := by rw [cell_of_row W _ 0 _ _ _ hv]; rfl
    have HP := Lib.hid hp
    have HB := Lib.hid hI.bl
    have HV := Lib.hid hv
    clear hI hp hv
    gi_wp2
    refine ⟨by simp, .inl ⟨_, _, rfl, run_takeDeferred hdf, ?_⟩⟩
    exact ⟨_, results_tmp rfl _ _ _, v, X, rfl, HP.out.lp (frm_putLoop (B := V.heap.size) _ hdf rfl (Nat.le_refl _)), HB.out.trans (((frm_putLoop (B := V.heap.size) _ hdf rfl (Nat.le_refl _)).weak (by have := HVS.out; omega)).below HB.out.size)⟩
  case stop =>
    intro W h hdf
    exact h.elim
set_option maxHeartbeats 1600000 in
theorem collect_any {D s0 s1 n c : Nat} {A : Option Addr} {rs : List Int} (w : World) (hn : 4 * (n / 4) = n) (hn6 : n ≤ 1000000) (hD : D ≤ w.heap.size) (hr : cRd D s0 s1 A n c rs w) :
    Calls Tryd.prog 128 #[.func (.func 132) #[] #[.pointer (some ⟨s0, 0, none⟩), .pointer (some ⟨s1, 0, none⟩)]] w fun e w' =>
      ∃ v X, e = .returned v ∧ PartsAt (w.heap.size + 1) A (n / 4) v w' X ∧ Below w.heap.size w w' := by
  have key := appendSeq_any w hn hn6 hD hr
  clear hr
  go_enter Tryd.func128, Tryd.ntmps128
  go_wp2_with fail
  refine key.mono ?_
  rintro e w' ⟨v, X, rfl, hp, hb⟩
  go_wp2_with fail
  go_ret
  exact ⟨v, X, rfl, hp, hb⟩
end Go.Proofs.YtbfgoojpbhlboaaDoor
