/- know.Knows (layer 3). No condition. -/
import Derived.Test.YtmaedahleenlgaaKnow10
set_option linter.unusedVariables false
set_option linter.unusedSimpArgs false
namespace Go.Proofs.Ytmaedahleenlgaa
open Go Go.RowKit
attribute [local go_sem] Oper.semAt_some

def folK (F : List Bool) (k : Nat) : List Int := ((List.range k).map fun i : Nat => (i : Int) + 1).filter (bget F)
theorem folK_succ (F : List Bool) (k : Nat) : folK F (k + 1) = folK F k ++ (if bget F ((k : Int) + 1) then [(k : Int) + 1] else []) := by
  unfold folK
  rw [List.range_succ, List.map_append, List.filter_append]
  congr 1
  simp only [List.map_cons, List.map_nil, List.filter_cons, List.filter_nil]
theorem folK_len (F : List Bool) (k : Nat) : (folK F k).length ≤ k := by
  unfold folK
  refine Nat.le_trans (List.length_filter_le _ _) ?_
  simp
theorem folK_knL {T : List Nd} {S : Int → Prop} {F C : List Bool} (h : DoneK T S F C) : folK F T.length = knL T S := by
  unfold folK knL
  refine List.filter_congr fun x hx => ?_
  obtain ⟨i, -, rfl⟩ := List.mem_map.1 hx
  exact knB_of (h.fol _ (by omega))
/-- What the loop of Knows keeps. -/
structure KnI (Wo : World) (mb : Nat) (F : List Bool) (b2 Bo : Nat) (k : Nat) (W : World) : Prop where
  bl : Below Wo.heap.size Wo W
  y : W.heap[b2]? = some (.cells #[.pointer (some ⟨mb, 0, none⟩)] 27 (0, 0))
  o : ∃ A c, W.heap[Wo.heap.size]? = some (.cells #[.slice A (folK F k).length c] 38 (0, 0)) ∧ OwnI W Bo .i64 (.slice A (folK F k).length c) (folK F k)
  sz : Bo ≤ W.heap.size
theorem KnI.lp {Wo : World} {mb : Nat} {F : List Bool} {b2 Bo k D : Nat} {W W' : World} (h : KnI Wo mb F b2 Bo k W) (hD : Wo.heap.size ≤ D) (hf : Frm lpO D W W') : KnI Wo mb F b2 Bo k W' := by
  obtain ⟨A, c, h1, h2⟩ := h.o
  exact ⟨h.bl.trans ((hf.weak hD).below h.bl.size), cells_lp h.y hf, ⟨A, c, cells_lp h1 hf, h2.frm (hf.mono lpO_sp)⟩, Nat.le_trans h.sz hf.size⟩
/-- append within a fence, by its run. -/
theorem wpIn_app_run {F : Fence} {n : Nat} {P : Program} {w w' : World} {ops : Array Oper} {rest : List Oper} {o : Oper} {a : Act} {Q : Exit → Act → World → Prop} (hg : o.guard = none) (s x : Operand) (t : Nat)
    (ho : o.op = .call { callee := .builtin .append, args := #[s, x], argTypes := #[t, t] }) {v v' : Value} {A : Option Addr} {m c : Nat} (hv : a.eval s = v) (hx : a.eval x = .slice A m c) (hrun : (Builtin.append_ #[t, t] o.type #[v, .slice A m c]).run P w = .ok v' w')
    (h : wpListIn F n P ops Q rest (a.put o.dst v') w') : wpListIn F n P ops Q (o :: rest) a w := by
  refine wpListIn_plain hg fun K hK' => ?_
  unfold Oper.wpIn
  refine ⟨?_, ?_⟩
  · simp [Oper.about, ho, resolve, Target.leads, Sem.run_pure]
  · rw [Oper.semAt_plain F _ _ (by rw [ho]; intro c hc'; cases hc')]
    simp [execOp, ho, resolve, invoke, builtin, hv, hx, hrun, Result.andThen]
    exact hK' _ _ h
theorem OwnI.cells {w : World} {B : Nat} {k : IntKind} {v : Value} {xs : List Int} (h : OwnI w B k v xs) : ∀ g, v.ownBlock = some g → ∃ cur t fr, w.heap[g]? = some (.cells cur t fr) := by
  intro g e
  rcases h with ⟨_, hv⟩ | ⟨g', cap, cur, T, rfl, _, hg, _⟩
  · rw [hv] at e; cases e
  · simp [Value.ownBlock] at e
    subst e
    exact ⟨cur, T, _, hg⟩
theorem KeepLp.of_grown {a b : World} {row : Option Nat} (h : a.grownBy b row) (hc : ∀ g, row = some g → ∃ cur t fr, a.heap[g]? = some (.cells cur t fr)) : KeepLp a b := fun i o hi hl => by
  refine (h.block i (lt_of_get hi) fun e => ?_).trans hi
  obtain ⟨cur, t, fr, hg⟩ := hc i e.symm
  rw [hi] at hg; cases hg; cases hl
theorem KeepLp.set {w : World} {g i : Nat} {cs : Array Value} {t : TypeId} {fr : Nat × Nat} (h : w.heap[g]? = some (.cells cs t fr)) (v : Value) : KeepLp w (w.setCell ⟨g, i, none⟩ v) := fun q o hq hl => by
  refine (mblk_other w v fun e => ?_).trans hq
  subst e
  rw [h] at hq; cases hq; cases hl
/-- The round's item: its number in a slot. -/
def hAx (T : List Nd) (f : Value → Value → Value → Array Value) (k : Nat) (x : TItem) (a : Act) (W : World) : Prop :=
  x.1 = (k : Int) + 1 ∧ ∃ nv, a = { tmps := f (.int .i64 x.1) (.int .i64 x.1) nv, defers := [] }

set_option maxHeartbeats 12800000 in
set_option maxRecDepth 100000 in
theorem vknows_any {B mb : Nat} {tp : Option Addr} {v1 v2 : Value} {T : List Nd} {S : Int → Prop} (w : World) (hm : MindV B w mb tp v1 v2 T S) (ht : TabAt B w tp T) :
    Calls Try.prog 16 #[.pointer (some ⟨mb, 0, none⟩)] w fun e w' => ∃ A c, e = .returned (.slice A (knL T S).length c) ∧ OwnI w' w.heap.size .i64 (.slice A (knL T S).length c) (knL T S) ∧ ∃ u1 u2, KStep B w mb tp v1 v2 u1 u2 T S w' := by
  have HW := Lib.hid hm.wf
  have hT := hm.wf.len
  have HBW : Hid (B ≤ w.heap.size) := hm.base
  have hms := hm.sub
  obtain ⟨W0, hW0⟩ : ∃ W0, W0 = w.alloc (.cells #[.pointer (some ⟨mb, 0, none⟩)] 27) := ⟨_, rfl⟩
  have hb0 : Below w.heap.size w W0 := by rw [hW0]; exact below_new _
  have HB0 := Lib.hid hb0
  have hs0 : W0.heap.size = w.heap.size + 1 := by rw [hW0]; simp
  have hx0 : W0.heap[w.heap.size]? = some (.cells #[.pointer (some ⟨mb, 0, none⟩)] 27 (0, 0)) := by rw [hW0]; exact heap_alloc_new w _
  have hm0 := hm.below hb0
  have ht0 := ht.below hb0
  have key : Calls Try.prog 33 #[.pointer (some ⟨mb, 0, none⟩)] W0 fun e Wo => e = .returned (.tuple #[]) ∧ ∃ u1 u2 F C, Wo.cell? ⟨w.heap.size, 0, none⟩ = some (.pointer (some ⟨mb, 0, none⟩)) ∧ w.heap.size < Wo.heap.size ∧
      Hid (DoneK T S F C ∧ (∀ h, S h → 1 ≤ h ∧ h ≤ T.length)) ∧ Hid (MStep B w mb tp v1 v2 u1 u2 F C T.length true Wo) ∧ Hid (TabAt B Wo tp T) ∧ Hid (Wo.heap[w.heap.size]? = some (.cells #[.pointer (some ⟨mb, 0, none⟩)] 27 (0, 0))) := by
    refine (vlook_any W0 hm0 ht0).mono ?_
    rintro e Wo ⟨rfl, u1, u2, F, C, hd, hrg, hs⟩
    have hxo : Wo.heap[w.heap.size]? = some (.cells #[.pointer (some ⟨mb, 0, none⟩)] 27 (0, 0)) := (hs.fr.block _ (by omega) fun q => by have := (hms _ q).2; omega).trans hx0
    obtain ⟨F0, C0, z0, f0, hma, -⟩ := hm0
    refine ⟨rfl, u1, u2, F, C, by rw [cell_of_row Wo _ 0 _ _ _ hxo]; rfl, lt_of_get hxo, ⟨hd, hrg⟩, ?_, ht0.mnd (hma.mfrm hs.fr), hxo⟩
    exact ⟨hs.at_, (MFrm.of_below hb0).trans hs.fr fun i q => .inl q, fun g e => (hs.o1 g e).imp id (fun q => by omega), fun g e => (hs.o2 g e).imp id (fun q => by omega)⟩
  rw [hW0] at key
  clear hm ht hm0 ht0 hms hx0 hb0 hW0 hs0
  refine (callsIn_wide (n := 2)).1 ?_
  refine callsIn_of_wp_marks Try.func16 rfl trivial ?_ rfl
  simp only [Try.ntmps16, List.size_toArray, List.length_cons, List.length_nil, Nat.reduceAdd, Nat.reduceSub, Array.replicate_succ, Array.replicate_zero, List.push_toArray, List.append_toArray, List.nil_append, List.cons_append]
  gi_wp2_with (first
    | (refine ⟨trivial, ?_⟩; gi_at_call 33; refine (callsIn_wide.2 key).mono ?_; clear key; rintro e Wo ⟨rfl, u1, u2, F, C, xo, xlt, HD, HST, HT, HX⟩)
    | (refine ⟨trivial, ?_⟩; gi_at_call 34; refine (callsIn_wide.2 (terms_any _ _)).mono ?_; rintro e Wt ⟨rfl, rfl⟩))
  obtain ⟨Wr, hWr⟩ : ∃ Wr, Wr = (Wo.alloc (.cells #[.slice none 0 0] 38)).alloc (.cells #[.pointer (some ⟨mb, 0, none⟩)] 27) := ⟨_, rfl⟩
  have hbr : Below Wo.heap.size Wo Wr := by rw [hWr]; exact (below_new _).alloc (by simp) _
  have hsr : Wr.heap.size = Wo.heap.size + 2 := by rw [hWr]; simp
  have HI0 : Hid (KnI Wo mb F (Wo.heap.size + 1) Wr.heap.size 0 Wr) := by
    refine ⟨hbr, ?_, ⟨none, 0, ?_, OwnI.nil _ _ _⟩, Nat.le_refl _⟩
    · have := heap_alloc_new (Wo.alloc (.cells #[.slice none 0 0] 38)) (.cells #[.pointer (some ⟨mb, 0, none⟩)] 27)
      rw [World.size_alloc] at this
      rw [hWr]; exact this
    · rw [hWr]; exact (Below.heap_alloc _ _ _ (by simp)).trans (heap_alloc_new Wo _)
  have HWD : Hid (Wo.heap.size + 2 = Wr.heap.size) := hsr.symm
  rw [← hWr]
  clear hWr hbr hsr xo
  refine range_gives (m := 0) (gf := 50) (lb := #[.pointer (some ⟨Wo.heap.size + 1, 0, none⟩)]) rfl (enters_of Try.func50 (by kernel_rfl) rfl)
    (terms_gives (B := B) (mb := mb) (bx := Wo.heap.size + 1) (tp := tp) (T := T) 0 hT) (fun x => rfl)
    (fun k W => KnI Wo mb F (Wo.heap.size + 1) Wr.heap.size k W)
    (hAx T (fun s4 s11 s12 => #[.pointer (some ⟨mb, 0, none⟩), .pointer (some ⟨w.heap.size, 0, none⟩), .slice none 0 0, .pointer (some ⟨Wo.heap.size, 0, none⟩), s4, .pointer (some ⟨mb, 0, none⟩), .bool false, .pointer (some ⟨mb, 0, none⟩), .tuple #[], .pointer (some ⟨mb, 0, none⟩), .func (.func 50) #[] #[.pointer (some ⟨Wo.heap.size + 1, 0, none⟩)], s11, s12, undef, undef, undef, undef, undef, undef, undef, undef, undef, undef, undef, undef]))
    (fun k W W' h hf => h.lp (by have := HWD.out; omega) hf) (fun k x a W W' h hf => h) (fun k W h => ⟨⟨_, _, _, (HST.out.at_.below h.bl).blk⟩, HT.out.below h.bl, h.y⟩) HI0.out ?assign ?body ?done
  case assign =>
    intro l k x W K hI hN hGd hK
    simp only [tEnc]
    gi_wp2
    exact hK _ _ (Below.refl _ _) ⟨hGd.1, _, rfl⟩
  case body =>
    rintro l k ⟨h, nd, A', c'⟩ a1 W hN hI ⟨hx1, nv, rfl⟩
    simp only at hx1 ⊢
    subst hx1
    have HI := Lib.hid hI
    have hmW := HST.out.at_.below hI.bl
    have x0 : W.cell? ⟨w.heap.size, 0, none⟩ = some (.pointer (some ⟨mb, 0, none⟩)) := by rw [cell_of_row W _ 0 _ _ _ ((hI.bl.block _ xlt).trans HX.out)]; rfl
    have m1 := hmW.cells.2.1
    have hFl : F.length = T.length + 1 := HD.out.1.len.F
    obtain ⟨gF, capF, eF, hcF, qF⟩ := hmW.f.at_ (p := (k : Int) + 1) (by omega) (by omega)
    rw [show ((k : Int) + 1).toNat = k + 1 from by omega] at qF
    obtain ⟨bF, hbF⟩ : ∃ b, b = bget F ((k : Int) + 1) := ⟨_, rfl⟩
    rw [← hbF] at qF
    have hkF : (k : Int) + 1 < (F.length : Int) := by omega
    have hkz : (0 : Int) ≤ (k : Int) + 1 := by omega
    have hkt : ((k : Int) + 1).toNat = k + 1 := by omega
    have hsucc := folK_succ F k
    rw [← hbF] at hsucc
    rw [eF] at m1
    clear eF hbF
    cases bF with
    | false =>
      rw [if_neg (by decide), List.append_nil] at hsucc
      have HK : Hid (KnI Wo mb F (Wo.heap.size + 1) Wr.heap.size (k + 1) W) := by
        obtain ⟨A, c, h1, h2⟩ := hI.o
        exact ⟨hI.bl, hI.y, ⟨A, c, by rw [hsucc]; exact h1, by rw [hsucc]; exact h2⟩, hI.sz⟩
      clear hsucc hI hmW hFl
      gi_wp2
      exact ⟨fun _ _ q _ => q, HK.out⟩
    | true =>
      rw [if_pos rfl] at hsucc
      obtain ⟨A, c, ho1, ho2⟩ := hI.o
      have o0 : W.cell? ⟨Wo.heap.size, 0, none⟩ = some (.slice A (folK F k).length c) := by rw [cell_of_row W _ 0 _ _ _ ho1]; rfl
      have o1 : W.frozen? ⟨Wo.heap.size, 0, none⟩ = false := by simp [World.frozen?, ho1]
      have hll := folK_len F k
      obtain ⟨i, hi, hz0, hz1, hz2⟩ := info_parts info_term
      have hbn : Below W.heap.size W (W.alloc (.cells #[.int .i64 ((k : Int) + 1)] 37)) := below_new _
      obtain ⟨v', W2, hrun, q1, q2, q3⟩ := run_app (P := Try.prog) (w := W.alloc (.cells #[.int .i64 ((k : Int) + 1)] 37)) 38 38 37 i (.int .i64 0) .i64 8 Try.underlying38 hi hz0 hz1 hz2 rfl sp_term (ho2.below hbn) (A := some ⟨W.heap.size, 0, none⟩) (c := 1) (m := 1) (RdI.one W .i64 ((k : Int) + 1) _) rfl (by have := hI.sz; simp; omega) (by omega) (by omega)
      rw [← hsucc] at q1
      obtain ⟨A2, c2, rfl⟩ := q1.slice
      have hob : Wo.heap.size < Wr.heap.size := by have := HWD.out; omega
      have hoW : Wo.heap.size < W.heap.size := lt_of_get ho1
      have hsW := hI.sz
      have hw1 : (W.alloc (.cells #[.int .i64 ((k : Int) + 1)] 37)).heap[Wo.heap.size]? = some (.cells #[.slice A (folK F k).length c] 38 (0, 0)) := (hbn.block _ hoW).trans ho1
      have hw2 := (q3.block _ hob).trans hw1
      have c0 : W2.cell? ⟨Wo.heap.size, 0, none⟩ = some (.slice A (folK F k).length c) := by rw [cell_of_row W2 _ 0 _ _ _ hw2]; rfl
      have c1 : W2.frozen? ⟨Wo.heap.size, 0, none⟩ = false := by simp [World.frozen?, hw2]
      have HK : Hid (KeepLp W (W2.setCell ⟨Wo.heap.size, 0, none⟩ (.slice A2 (folK F (k + 1)).length c2)) ∧ KnI Wo mb F (Wo.heap.size + 1) Wr.heap.size (k + 1) (W2.setCell ⟨Wo.heap.size, 0, none⟩ (.slice A2 (folK F (k + 1)).length c2))) := by
        refine ⟨(KeepLp.of_below hbn).trans ((KeepLp.of_grown q2 (ho2.below hbn).cells).trans (KeepLp.set hw2 _)), ⟨?_, ?_, ⟨A2, c2, ?_, q1.setBelow hob _⟩, ?_⟩⟩
        · have h1 : Below Wo.heap.size Wo (W.alloc (.cells #[.int .i64 ((k : Int) + 1)] 37)) := hI.bl.trans (hbn.mono (by omega))
          have h2 := h1.trans (q3.mono (by omega))
          exact ⟨h2.os, h2.tape, h2.output, by simp only [World.setCell, Array.size_modify]; exact h2.size, fun q hq => (mblk_other W2 _ (by omega)).trans (h2.block q hq)⟩
        · refine (mblk_other W2 _ (by omega)).trans ((q3.block _ (by have := HWD.out; omega)).trans ((hbn.block _ (lt_of_get hI.y)).trans hI.y))
        · have := mblk_set (i := 0) hw2 (.slice A2 (folK F (k + 1)).length c2)
          simpa using this
        · have : (W2.setCell ⟨Wo.heap.size, 0, none⟩ (.slice A2 (folK F (k + 1)).length c2)).heap.size = W2.heap.size := by simp [World.setCell]
          rw [this]
          have := q3.size
          simp at this
          omega
      clear hsucc hI hmW hFl ho1 ho2 q1 q2 q3 hw1 hw2 hll hz0 hz1 hz2 hbn hi
      have HRUN := Lib.hid hrun
      clear hrun
      gi_wp2_with (gi_at_builtin; refine wpIn_app_run rfl _ _ _ rfl rfl rfl HRUN.out ?_)
      exact ⟨HK.out.1, HK.out.2⟩
  case done =>
    intro W hI hmk
    have HI := Lib.hid hI
    have HK := Lib.hid hmk
    obtain ⟨A, c, ho1, ho2⟩ := hI.o
    have o0 : W.cell? ⟨Wo.heap.size, 0, none⟩ = some (.slice A (folK F T.length).length c) := by rw [cell_of_row W _ 0 _ _ _ ho1]; rfl
    have HO2 := Lib.hid ho2
    clear hI hmk ho1 ho2
    gi_wp2
    refine ⟨by simp, .inl ⟨_, _, rfl, run_takeDeferred HK.out, ?_⟩⟩
    have hf := frm_putLoop (.deferred none) HK.out rfl (Nat.le_refl _)
    have h2 := HI.out.lp (by have := HWD.out; omega) hf
    have h3 := HO2.out.frm (hf.mono lpO_sp)
    rw [folK_knL HD.out.1] at h3
    have hst := HST.out.below h2.bl
    refine ⟨.slice A (folK F T.length).length c, ?_, A, c, by rw [folK_knL HD.out.1], h3.mono (by have := HWD.out; omega), u1, u2, .of hst (.of_done HW.out HD.out.2 HD.out.1)⟩
    exact results_tmp (fn := Try.f16) rfl _ _ _
end Go.Proofs.Ytmaedahleenlgaa
