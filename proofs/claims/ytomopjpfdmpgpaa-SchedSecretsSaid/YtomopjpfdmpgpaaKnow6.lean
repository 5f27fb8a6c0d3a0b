/- know.publics (layer 3). No condition. -/
import Derived.Test.YtomopjpfdmpgpaaKnow5
set_option linter.unusedVariables false
set_option linter.unusedSimpArgs false
namespace Go.Proofs.Ytomopjpfdmpgpaa
open Go Go.RowKit
attribute [local go_sem] Oper.semAt_some

theorem lpO_sp : ∀ o, lpO o = true → spO o = true := by
  intro o h
  unfold lpO at h
  split at h <;> first | rfl | cases h
theorem lpO_tab : ∀ o, tabT o = true → lpO o = false := by
  intro o h
  unfold tabT at h
  split at h <;> first | rfl | cases h
theorem lpO_mnd : ∀ o, mndO o = true → lpO o = false := by
  intro o h
  unfold mndO at h
  split at h <;> first | rfl | cases h
theorem TabAt.lp {B B' : Nat} {w w' : World} {tp : Option Addr} {T : List Nd} (h : TabAt B w tp T) (hf : Frm lpO B' w w') (hB : B ≤ B') : TabAt B w' tp T := by
  rcases h with h | ⟨tb, e, ht⟩
  · exact .inl h
  · exact .inr ⟨tb, e, ht.frm hf hB lpO_tab lpO_sp⟩
theorem OwnB.lp {w w' : World} {B B' : Nat} {v : Value} {bs : List Bool} (h : OwnB w B v bs) (hf : Frm lpO B' w w') : OwnB w' B v bs := h.same fun g e => by
  obtain ⟨cur, hg⟩ := h.type g e
  rw [hg]; exact hf.block _ _ hg (.inr rfl)
theorem Rds.lp {B : Nat} {w w' : World} {k : IntKind} {A : Option Addr} {n c : Nat} {xs : List Int} (h : Rds B w k A n c xs) {B' : Nat} (hf : Frm lpO B' w w') (hB : B ≤ B') : Rds B w' k A n c xs := h.frm ((hf.weak hB).mono lpO_sp)
theorem cells_lp {w w' : World} {B g : Nat} {cs : Array Value} {t : TypeId} {fr : Nat × Nat} (h : w.heap[g]? = some (.cells cs t fr)) (hf : Frm lpO B w w') : w'.heap[g]? = some (.cells cs t fr) := hf.block _ _ h (.inr rfl)
/-- A step that turns cells alone leaves a loop's records. -/
theorem lp_of_mfrm {S : Nat → Prop} {w w' : World} (h : MFrm S w w') (hs : ∀ k o, S k → w.heap[k]? = some o → lpO o = false) : ∀ (k : Nat) (o : Obj), w.heap[k]? = some o → lpO o = true → w'.heap[k]? = some o :=
  fun k o hk ho => (h.block k (lt_of_get hk) fun q => by have := hs k o q hk; rw [ho] at this; cases this).trans hk
theorem lp_of_below {w w' : World} (h : Below w.heap.size w w') : ∀ (k : Nat) (o : Obj), w.heap[k]? = some o → lpO o = true → w'.heap[k]? = some o := fun k o hk _ => (h.block k (lt_of_get hk)).trans hk
/-- The local variable of a round: a term. -/
def NodeAt (W : World) (g : Nat) (nd : Nd) (A : Option Addr) (c : Nat) : Prop := W.heap[g]? = some (.cells #[.int .i64 nd.kind, .string nd.text, .slice A nd.parts.length c] 85 (0, 0)) ∧ Rds 0 W .i64 A nd.parts.length c nd.parts

theorem made_bools (n : Nat) : (madeCells (Value.bool false).cells (n * 1)).toList = (List.replicate n false).map Value.bool := by
  have hc : (Value.bool false).cells = #[.bool false] := rfl
  rw [Nat.mul_one, hc]
  apply List.ext_getElem?
  intro j
  by_cases hj : j < n
  · simp [madeCells, hj, Nat.mod_one]
  · simp [madeCells, hj]
theorem run_make_bools (base : Nat) (W : World) (n : Nat) (hn : n ≤ 1000000) (hb : base ≤ W.heap.size) :
    ∃ W', (Instr.makeSlice 117 (.int .i64 (n : Int)) (.int .i64 (n : Int))).run Try.prog W = .ok (.slice (some ⟨W.heap.size, 0, none⟩) n n) W' ∧ OwnB W' base (.slice (some ⟨W.heap.size, 0, none⟩) n n) (List.replicate n false) ∧ Below W.heap.size W W' := by
  obtain ⟨i, hi, hz, hs, hby⟩ := info_parts info_bool
  obtain ⟨W', h1, h2, h3⟩ := run_makeSlice_full (P := Try.prog) (w := W) base 117 4 i (.bool false) 1 Try.underlying117 hi hz hs .i64 .i64 n (by omega) (by rw [hby]; omega) (by simp only [maxLen]; omega) hb
  refine ⟨W', h1, ?_, ⟨h3.os, h3.tape, h3.output, h3.size, fun k hk => h3.block k hk (by simp)⟩⟩
  unfold OwnB
  rw [List.length_replicate, ← made_bools]
  exact h2

/-- What the loop of publics keeps. -/
structure PubI (B : Nat) (w : World) (mb : Nat) (tp : Option Addr) (v1 v2 : Value) (F C : List Bool) (T : List Nd) (fresh : Bool) (go bx : Nat) (vo : Value) (k : Nat) (W : World) : Prop where
  m : MindAt B W mb tp v1 v2 F C T.length fresh
  t : TabAt B W tp T
  x : W.heap[bx]? = some (.cells #[.pointer (some ⟨mb, 0, none⟩)] 93 (0, 0))
  bm : W.heap[w.heap.size]? = some (.cells #[.pointer (some ⟨mb, 0, none⟩)] 93 (0, 0))
  o : W.heap[go]? = some (.cells #[vo] 117 (0, 0))
  r : OwnB W w.heap.size vo (pubK T F (List.replicate (T.length + 1) false) k)
  bl : Below w.heap.size w W
theorem PubI.lp {B : Nat} {w : World} {mb : Nat} {tp : Option Addr} {v1 v2 : Value} {F C : List Bool} {T : List Nd} {fresh : Bool} {go bx : Nat} {vo : Value} {k : Nat} {W W' : World} (h : PubI B w mb tp v1 v2 F C T fresh go bx vo k W) {D : Nat} (hB : B ≤ D) (hD : w.heap.size ≤ D) (hf : Frm lpO D W W') : PubI B w mb tp v1 v2 F C T fresh go bx vo k W' :=
  ⟨h.m.frm hf lpO_mnd, h.t.lp hf hB, cells_lp h.x hf, cells_lp h.bm hf, cells_lp h.o hf, h.r.lp hf, h.bl.trans ((hf.weak hD).below h.bl.size)⟩
def termAx (T : List Nd) (f : Value → Value → Value → Value → Array Value) (k : Nat) (x : TItem) (a : Act) (W : World) : Prop :=
  x.1 = (k : Int) + 1 ∧ T[k]? = some x.2.1 ∧ ∃ g, NodeAt W g x.2.1 x.2.2.1 x.2.2.2 ∧ a = { tmps := f (.int .i64 x.1) (.pointer (some ⟨g, 0, none⟩)) (.int .i64 x.1) (.agg #[.int .i64 x.2.1.kind, .string x.2.1.text, .slice x.2.2.1 x.2.1.parts.length x.2.2.2]), defers := [] }
theorem termAx.lp {T : List Nd} {f : Value → Value → Value → Value → Array Value} {k : Nat} {x : TItem} {a : Act} {W W' : World} (h : termAx T f k x a W) {D : Nat} (hf : Frm lpO D W W') : termAx T f k x a W' := by
  obtain ⟨h1, h2, g, ⟨h3, h4⟩, h5⟩ := h
  exact ⟨h1, h2, g, ⟨cells_lp h3 hf, h4.lp hf (Nat.zero_le _)⟩, h5⟩
theorem gInfo (W : World) {P : Program} (f : Nat) : True := trivial

set_option maxHeartbeats 12800000 in
set_option maxRecDepth 100000 in
theorem publics_any {B mb : Nat} {tp : Option Addr} {v1 v2 : Value} {F C : List Bool} {fresh : Bool} {T : List Nd} (w : World) (hm : MindAt B w mb tp v1 v2 F C T.length fresh) (ht : TabAt B w tp T) (hF : F.length = T.length + 1) :
    Calls Try.prog 87 #[.pointer (some ⟨mb, 0, none⟩)] w fun e w' => ∃ v, e = .returned v ∧ OwnB w' w.heap.size v (pubL T F) ∧ Below w.heap.size w w' := by
  have hT := ht.wf.len
  have HW := Lib.hid ht.wf
  obtain ⟨W0, hW0⟩ : ∃ W0, W0 = w.alloc (.cells #[.pointer (some ⟨mb, 0, none⟩)] 93) := ⟨_, rfl⟩
  have HM := Lib.hid (hm.below (show Below w.heap.size w W0 by rw [hW0]; exact below_new _))
  have m3 := HM.out.cells.2.2.2.1
  have hml : mb < W0.heap.size := HM.out.lt
  rw [hW0] at m3
  have hmw : mb < w.heap.size := hm.lt
  have HMS : Hid (∀ k, mS mb v1 v2 k → k < w.heap.size) := fun k hk => (hm.sub k hk).2
  refine (callsIn_wide (n := 2)).1 ?_
  refine callsIn_of_wp_marks Try.func87 rfl trivial ?_ rfl
  simp only [Try.ntmps87, List.size_toArray, List.length_cons, List.length_nil, Nat.reduceAdd, Nat.reduceSub, Array.replicate_succ, Array.replicate_zero, List.push_toArray, List.append_toArray, List.nil_append, List.cons_append]
  obtain ⟨W1, hmk, hown, hb1⟩ := run_make_bools w.heap.size W0 (T.length + 1) (by omega) (by rw [hW0]; simp)
  have hsz0 : W0.heap.size = w.heap.size + 1 := by rw [hW0]; simp
  have HM1 := Lib.hid (HM.out.below hb1)
  have HO1 := Lib.hid hown
  have HB1 : Hid (Below w.heap.size w W1) := (show Below w.heap.size w W0 by rw [hW0]; exact below_new _).trans (hb1.mono (by omega))
  have HX1 : Hid (W1.heap[w.heap.size]? = some (.cells #[.pointer (some ⟨mb, 0, none⟩)] 93 (0, 0))) := (hb1.block _ (by omega)).trans (by rw [hW0]; exact heap_alloc_new w _)
  have HT1 := Lib.hid (ht.below HB1.out)
  rw [hsz0] at hmk HO1
  rw [hW0] at hmk
  have hmk' : (Instr.makeSlice 117 (.int .i64 ((T.length : Int) + 1)) (.int .i64 ((T.length : Int) + 1))).run Try.prog (w.alloc (.cells #[.pointer (some ⟨mb, 0, none⟩)] 93)) = .ok (.slice (some ⟨w.heap.size + 1, 0, none⟩) (T.length + 1) (T.length + 1)) W1 := hmk
  have HS1 : Hid (w.heap.size + 1 < W1.heap.size) := (HO1.out.lt _ rfl).2
  have x0 : W1.cell? ⟨w.heap.size, 0, none⟩ = some (.pointer (some ⟨mb, 0, none⟩)) := by rw [cell_of_row W1 _ 0 _ _ _ HX1.out]; rfl
  have lx : w.heap.size < W1.heap.size := lt_of_get HX1.out
  clear hmk hown hb1 hm ht
  gi_wp2_with (refine ⟨trivial, ?_⟩; gi_at_call 88; refine (callsIn_wide.2 (terms_any _ _)).mono ?_; rintro e w' ⟨rfl, rfl⟩)
  obtain ⟨W3, hW3⟩ : ∃ W3, W3 = (W1.alloc (.cells #[.slice (some ⟨w.heap.size + 1, 0, none⟩) (T.length + 1) (T.length + 1)] 117)).alloc (.cells #[.pointer (some ⟨mb, 0, none⟩)] 93) := ⟨_, rfl⟩
  have hb3 : Below W1.heap.size W1 W3 := by rw [hW3]; exact (below_new _).alloc (by simp) _
  have hs3 : W3.heap.size = W1.heap.size + 1 + 1 := by rw [hW3]; simp
  have hx3 : W3.heap[W1.heap.size + 1]? = some (.cells #[.pointer (some ⟨mb, 0, none⟩)] 93 (0, 0)) := by
    have := heap_alloc_new (W1.alloc (.cells #[.slice (some ⟨w.heap.size + 1, 0, none⟩) (T.length + 1) (T.length + 1)] 117)) (.cells #[.pointer (some ⟨mb, 0, none⟩)] 93)
    rw [World.size_alloc] at this
    rw [hW3]; exact this
  have ho3 : W3.heap[W1.heap.size]? = some (.cells #[.slice (some ⟨w.heap.size + 1, 0, none⟩) (T.length + 1) (T.length + 1)] 117 (0, 0)) := by
    rw [hW3]; exact (Below.heap_alloc _ _ _ (by simp)).trans (heap_alloc_new W1 _)
  have HI0 : Hid (PubI B w mb tp v1 v2 F C T fresh W1.heap.size (W1.heap.size + 1) (.slice (some ⟨w.heap.size + 1, 0, none⟩) (T.length + 1) (T.length + 1)) 0 W3) :=
    ⟨HM1.out.below hb3, HT1.out.below hb3, hx3, (hb3.block _ lx).trans HX1.out, ho3, HO1.out.below hb3, below_next HB1.out HB1.out.size hb3⟩
  have HBD : Hid (B ≤ W3.heap.size) := by show _ ≤ _; have := HM1.out.base; have := HM1.out.lt; omega
  have HWD : Hid (w.heap.size ≤ W3.heap.size) := HI0.out.bl.size
  rw [← hW3]
  clear hW3 hb3 hs3 hx3 ho3 HO1 HX1 HM1 HT1 HB1 x0 lx hmk' m3 hml hmw hsz0 hW0 HM
  refine range_gives (m := 0) (gf := 97) (lb := #[.pointer (some ⟨W1.heap.size + 1, 0, none⟩)]) rfl (enters_of Try.func97 (by kernel_rfl) rfl)
    (terms_gives (B := B) (mb := mb) (bx := W1.heap.size + 1) (tp := tp) (T := T) 0 hT) (fun x => rfl)
    (fun k W => PubI B w mb tp v1 v2 F C T fresh W1.heap.size (W1.heap.size + 1) (.slice (some ⟨w.heap.size + 1, 0, none⟩) (T.length + 1) (T.length + 1)) k W)
    (termAx T (fun s4 s5 s14 s15 => #[.pointer (some ⟨mb, 0, none⟩), .pointer (some ⟨w.heap.size, 0, none⟩), .slice none 0 0, .pointer (some ⟨W1.heap.size, 0, none⟩), s4, s5, .pointer (some ⟨mb, 0, none⟩), .pointer (some ⟨mb, 0, none⟩), .pointer (some ⟨mb, 3, none⟩), .int .i64 T.length, .int .i64 (T.length + 1), .slice (some ⟨w.heap.size + 1, 0, none⟩) (T.length + 1) (T.length + 1), .pointer (some ⟨mb, 0, none⟩), .func (.func 97) #[] #[.pointer (some ⟨W1.heap.size + 1, 0, none⟩)], s14, s15, undef, undef, undef, undef, undef, undef, undef, undef, undef, undef, undef, undef, undef, undef, undef, undef, undef, undef, undef]))
    (fun k W W' h hf => h.lp HBD.out HWD.out hf) (fun k x a W W' h hf => h.lp hf) (fun k W h => ⟨⟨_, _, _, h.m.blk⟩, h.t, h.x⟩) HI0.out ?assign ?body ?done
  case assign =>
    intro l k x W K hI hN hGd hK
    simp only [tEnc]
    gi_wp2
    exact hK _ _ (below_new _) ⟨hGd.1, hGd.2.1, W.heap.size, ⟨heap_alloc_new W _, hGd.2.2.below (below_new _)⟩, rfl⟩
  case body =>
    rintro l k ⟨h, nd, A, c⟩ a1 W hN hI ⟨hx1, hx2, g, ⟨hn1, hn2⟩, rfl⟩
    simp only at hx1 hx2 hn1 hn2 ⊢
    subst hx1
    have hmx : Try.prog.follows .mixedOrders = true := by kernel_rfl
    have HI := Lib.hid hI
    have hnd : nd = T[k] := by rw [List.getElem?_eq_getElem hN] at hx2; exact (Option.some.inj hx2).symm
    have hg : getT T ((k : Int) + 1) = some nd := by rw [getT_nat]; exact hx2
    have hgood := HW.out.get hg
    have n0 : W.cell? ⟨g, 0, none⟩ = some (.int .i64 nd.kind) := by rw [cell_of_row W _ 0 _ _ _ hn1]; rfl
    have n2 : W.cell? ⟨g, 2, none⟩ = some (.slice A nd.parts.length c) := by rw [cell_of_row W _ 2 _ _ _ hn1]; rfl
    have b0 : W.cell? ⟨w.heap.size, 0, none⟩ = some (.pointer (some ⟨mb, 0, none⟩)) := by rw [cell_of_row W _ 0 _ _ _ hI.bm]; rfl
    have m1 := hI.m.cells.2.1
    obtain ⟨gF, capF, eF, hcF, qF⟩ := hI.m.f.at_ (p := (k : Int) + 1) (by omega) (by omega)
    rw [eF] at m1
    rw [show ((k : Int) + 1).toNat = k + 1 from by omega] at qF
    obtain ⟨bF, hbF⟩ : ∃ b, b = bget F ((k : Int) + 1) := ⟨_, rfl⟩
    rw [← hbF] at qF
    have hFl : (k : Int) + 1 < (F.length : Int) := by omega
    have hFz : (0 : Int) ≤ (k : Int) + 1 := by omega
    have hFt : ((k : Int) + 1).toNat = k + 1 := by omega
    have hsucc : pubK T F (List.replicate (T.length + 1) false) (k + 1) = pubStep F (pubK T F (List.replicate (T.length + 1) false) k) ((k : Int) + 1) nd := by rw [pubK_succ hN, hnd]
    have HSC := Lib.hid hsucc
    have HBF := Lib.hid hbF
    have HND := Lib.hid hnd
    clear hsucc hbF hx2 hnd
    have skip_ : ¬ (nd.kind = 7 ∧ bget F ((k : Int) + 1) = true) → Hid (PubI B w mb tp v1 v2 F C T fresh W1.heap.size (W1.heap.size + 1) (.slice (some ⟨w.heap.size + 1, 0, none⟩) (T.length + 1) (T.length + 1)) (k + 1) W) := fun q =>
      ⟨HI.out.m, HI.out.t, HI.out.x, HI.out.bm, HI.out.o, by rw [HSC.out]; unfold pubStep; rw [if_neg q]; exact HI.out.r, HI.out.bl⟩
    by_cases k7 : nd.kind = 7
    rotate_left
    · have HK := skip_ fun q => k7 q.1
      have hb : (nd.kind == 7) = false := by simp [k7]
      clear skip_ k7 hI eF
      gi_wp2
      exact ⟨fun _ _ q _ => q, HK.out⟩
    have hb7 : (nd.kind == 7) = true := by simp [k7]
    cases bF with
    | false =>
      have HK := skip_ fun q => by rw [← HBF.out] at q; exact absurd q.2 (by decide)
      clear skip_ k7 hI eF
      gi_wp2
      exact ⟨fun _ _ q _ => q, HK.out⟩
    | true =>
      clear skip_
      have hp1 := (hgood.k7 k7).1
      have hr := nth_range HW.out hg (i := 0) (by omega)
      obtain ⟨x, hx⟩ : ∃ n : Nat, nth nd.parts 0 = n := ⟨(nth nd.parts 0).toNat, by omega⟩
      obtain ⟨bA, oA, rfl, hcl⟩ := RdI.at_ hn2.cell (by omega)
      have a0 := hcl 0 (by omega)
      rw [hx, Nat.add_zero] at a0
      rw [hx] at hr
      have hlen := (pubK_spec HW.out F (List.replicate (T.length + 1) false) (by simp) k (by omega)).1
      have hpl : (0 : Int) < (nd.parts.length : Int) := by omega
      obtain ⟨gz, capz, ez, -, hgz, -, -, hcell, hfree, hset⟩ := hI.r.form (by omega)
      simp only [Value.slice.injEq, Option.some.injEq, Addr.mk.injEq, and_true] at ez
      obtain ⟨rfl, -, -⟩ := ez
      have z0 := hcell x (by omega)
      have z1 := hfree x
      have HS := Lib.hid (hset x true (by omega))
      have o0 : W.cell? ⟨W1.heap.size, 0, none⟩ = some (.slice (some ⟨w.heap.size + 1, 0, none⟩) (T.length + 1) (T.length + 1)) := by rw [cell_of_row W _ 0 _ _ _ hI.o]; rfl
      have xl : (x : Int) < (T.length : Int) + 1 := by omega
      have HX := Lib.hid hx
      have HHR := Lib.hid hr
      have K7 := Lib.hid k7
      obtain ⟨cur, hty⟩ := hI.r.type _ rfl
      have HTY := Lib.hid hty
      have HNX : Hid (roundEnd (fun W W' => (∀ (k : Nat) (o : Obj), W.heap[k]? = some o → lpO o = true → W'.heap[k]? = some o) ∧ PubI B w mb tp v1 v2 F C T fresh W1.heap.size (W1.heap.size + 1) (.slice (some ⟨w.heap.size + 1, 0, none⟩) (T.length + 1) (T.length + 1)) (k + 1) W') W .normal { tmps := #[], defers := [] } (W.setCell ⟨w.heap.size + 1, x, none⟩ (.bool true)).drew) := by
        have hb : ∀ q, q ≠ w.heap.size + 1 → (W.setCell ⟨w.heap.size + 1, x, none⟩ (.bool true)).drew.heap[q]? = W.heap[q]? := fun q h => mblk_other W _ h
        have hsz : (W.setCell ⟨w.heap.size + 1, x, none⟩ (.bool true)).drew.heap.size = W.heap.size := by show (W.setCell ⟨w.heap.size + 1, x, none⟩ (.bool true)).heap.size = _; simp [World.setCell]
        have hs1 := HS1.out
        have hbd : B ≤ w.heap.size := by have h1 := HI.out.m.base; have h2 := HMS.out mb (.inl rfl); omega
        refine ⟨fun q o ho hl => ?_, ?_, ?_, (hb _ (by omega)).trans HI.out.x, (hb _ (by omega)).trans HI.out.bm, (hb _ (by omega)).trans HI.out.o, ?_, ?_⟩
        · rw [hb q (fun e => by subst e; rw [HTY.out] at ho; cases ho; cases hl)]; exact ho
        · exact HI.out.m.keep fun q hq => hb q (by have := HMS.out q hq; omega)
        · refine HI.out.t.mnd ⟨rfl, rfl, rfl, by rw [hsz]; exact Nat.le_refl _, fun q o hq hc => ?_⟩
          by_cases e : q = w.heap.size + 1
          · subst e
            rw [HTY.out] at hq
            cases hq
            rcases hc with hc | hc
            · omega
            · cases hc
          · exact (hb q e).trans hq
        · rw [HSC.out]
          unfold pubStep
          rw [if_pos ⟨K7.out, HBF.out.symm⟩]
          unfold bset
          rw [HX.out, Int.toNat_natCast]
          exact HS.out.same fun _ _ => rfl
        · exact ⟨HI.out.bl.os, HI.out.bl.tape, HI.out.bl.output, by rw [hsz]; exact HI.out.bl.size, fun q hq => (hb q (by omega)).trans (HI.out.bl.block q hq)⟩
      generalize (pubK T F (List.replicate (T.length + 1) false) k).getD x false = bz at z0
      clear hcl hcell hfree hset hx hp1 hr k7 eF hI hlen hgood hn2 hty
      gi_wp2
      gi_region_with_o (fail)
      all_goals gi_wp2
      all_goals exact HNX.out
  case done =>
    intro W hI hK
    have o0 : W.cell? ⟨W1.heap.size, 0, none⟩ = some (.slice (some ⟨w.heap.size + 1, 0, none⟩) (T.length + 1) (T.length + 1)) := by rw [cell_of_row W _ 0 _ _ _ hI.o]; rfl
    have HI := Lib.hid hI
    have HK := Lib.hid hK
    clear hI hK
    gi_wp2
    refine ⟨by simp, .inl ⟨_, _, rfl, run_takeDeferred HK.out, ?_⟩⟩
    have hf := frm_putLoop (.deferred none) HK.out rfl (Nat.le_refl _)
    have h2 := HI.out.lp HBD.out HWD.out hf
    refine ⟨.slice (some ⟨w.heap.size + 1, 0, none⟩) (T.length + 1) (T.length + 1), ?_, _, rfl, h2.r, h2.bl⟩
    exact results_tmp (fn := Try.f87) rfl _ _ _
end Go.Proofs.Ytomopjpfdmpgpaa
