/- The reference's layer 7: Read. No condition. Printed by gen_refread07.py. -/
import Derived.Test.YtbfgoojpbhlboaaDoorParRead
import Derived.Test.YtbfgoojpbhlboaaDoorRef07b
set_option linter.unusedVariables false
set_option linter.unusedSimpArgs false
namespace Go.Proofs.YtbfgoojpbhlboaaDoor
open Go Go.RowKit

def WholePost (xs : List Int) (w : World) (e : Ending) (w' : World) : Prop := e = .returned (.tuple #[.int .i64 (readV xs).1, .bool (numV xs).isSome]) ∧ w = w'
set_option maxHeartbeats 1600000 in
theorem rwhole_any {B : Nat} (A : Option Addr) (n c : Nat) (xs : List Int) (w : World) (h : Rds B w .u8 A n c xs) (hb : Byt xs) :
    Calls Tryd.prog 57 #[.slice A n c] w (WholePost xs w) := by
  have key := rread_any A n c xs w h hb
  have hn := h.len
  have hcap := h.cap
  have hmax := h.max
  clear h
  unfold ReadPost at key
  have hnum : (numV xs).isSome = decide ((readV xs).2.2 = 0 ∧ (readV xs).2.1 = xs.length) := by
    unfold numV
    by_cases q : (readV xs).2.2 = 0 ∧ (readV xs).2.1 = xs.length
    · rw [if_pos q, decide_eq_true q]; rfl
    · rw [if_neg q, decide_eq_false q]; rfl
  unfold WholePost
  rw [hnum]
  clear hnum
  obtain ⟨a, s, e, hr⟩ : ∃ a s e, readV xs = (a, s, e) := ⟨_, _, _, rfl⟩
  have hsl : s ≤ 8 ∨ True := .inr trivial
  rw [hr] at key ⊢
  simp only at key ⊢
  clear hr
  by_cases he : e = 0
  · subst he
    by_cases hl : s = n
    · have hli : ((s : Int) == (n : Int)) = true := by simp [hl]
      rw [show decide ((0 : Int) = 0 ∧ s = xs.length) = true from decide_eq_true ⟨rfl, by omega⟩]
      clear hl hn
      go_enter Tryd.func57, Tryd.ntmps57
      go_wp2_with fail
      refine key.mono ?_
      clear key
      rintro e' w1 ⟨rfl, hw⟩
      obtain rfl : w1 = w := hw.symm
      go_wp2_with fail
      go_returns
      exact ⟨rfl, rfl⟩
    · have hli : ((s : Int) == (n : Int)) = false := by simp; omega
      rw [show decide ((0 : Int) = 0 ∧ s = xs.length) = false from decide_eq_false (by omega)]
      clear hl hn
      go_enter Tryd.func57, Tryd.ntmps57
      go_wp2_with fail
      refine key.mono ?_
      clear key
      rintro e' w1 ⟨rfl, hw⟩
      obtain rfl : w1 = w := hw.symm
      go_wp2_with fail
      go_returns
      exact ⟨rfl, rfl⟩
  · have he' : (e == 0) = false := by simp [he]
    rw [show decide (e = 0 ∧ s = xs.length) = false from decide_eq_false fun q => he q.1]
    clear he hn
    go_enter Tryd.func57, Tryd.ntmps57
    go_wp2_with fail
    refine key.mono ?_
    clear key
    rintro e' w1 ⟨rfl, hw⟩
    obtain rfl : w1 = w := hw.symm
    go_wp2_with fail
    go_returns
    exact ⟨rfl, rfl⟩
theorem rpar_size : (Tryd.prog.info? 25).map (·.size) = some 10 := by kernel_rfl
theorem Rds.offR {w : World} {B : Nat} {k : IntKind} {A : Option Addr} {n c : Nat} {xs : List Int} (h : Rds B w k A n c xs) {g : Nat} {cs : Array Value} {fr : Nat × Nat} (hB : B ≤ g) (hg : w.heap[g]? = some (.cells cs 25 fr)) : ∀ a, 0 < n → A = some a → a.block ≠ g := by
  intro a p e q
  rcases (h.safe p a e).2 with k | ⟨cs', t, fr', h1, h2⟩
  · omega
  · rw [q, hg] at h1
    cases h1
    revert h2
    decide
theorem ParAt.putR {B : Nat} {w w' : World} {p : Par} {s : ParS} (h : ParAt B w p s) {g : Nat} {cs : Array Value} {fr : Nat × Nat} (hB : B ≤ g) (hp : PutG g w w') (hg : w.heap[g]? = some (.cells cs 25 fr)) : ParAt B w' p s :=
  ⟨h.goal.putG hp (h.goal.offR hB hg), h.own.putG hp (h.own.offR hB hg), h.retry.putG hp (h.retry.offR hB hg), h.vs.putG hp (h.vs.offR hB hg)⟩
def b2n (b : Bool) : Nat := if b then 1 else 0
def cntS (s : RS) : Nat := b2n s.a + b2n s.b + b2n s.c
/-- Where the reference's reading stands. -/
structure RJ (w : World) (s : RS) (t : ParS) (W : World) : Prop where
  d : ParD W (w.heap.size + 1) s.p t
  h : ParAt w.heap.size W s.p t
  vs : s.c = false → s.p.vs = [] ∧ t.vA = none ∧ t.vc = 0
  fr : FreeS s
  bl : Below w.heap.size w W
  r0 : W.heap[w.heap.size]? = some (.cells par0Cs 25 (0, 0))
theorem RJ.below {w : World} {s : RS} {t : ParS} {W W' : World} (h : RJ w s t W) (hb : Below W.heap.size W W') : RJ w s t W' :=
  ⟨h.d.later hb (lt_of_get h.d), h.h.below hb, h.vs, h.fr, below_next h.bl h.bl.size hb, (hb.block _ (lt_of_get h.r0)).trans h.r0⟩
theorem RJ.step {w : World} {s : RS} {t : ParS} {W W3 : World} (h : RJ w s t W) (hp : PutG (w.heap.size + 1) W W3) {n : Int} {p' : Par} {t' : ParS} (hd : ParD W3 (w.heap.size + 1) p' t') (ha : ParAt w.heap.size W p' t') (hf : FreeS (nextS s n p')) (hk : n ≠ 17 → p'.vs = s.p.vs ∧ t'.vA = t.vA ∧ t'.vc = t.vc) : RJ w (nextS s n p') t' W3 := by
  refine ⟨hd, ha.putR (by omega) hp h.d, ?_, hf, h.bl.trans (hp.bl.mono (by omega)), (hp.off _ (lt_of_get h.r0) (by omega)).trans h.r0⟩
  intro hc
  simp only [nextS, Bool.or_eq_false_iff, decide_eq_false_iff_not] at hc
  obtain ⟨e1, e2, e3⟩ := h.vs hc.1
  obtain ⟨k1, k2, k3⟩ := hk hc.2
  exact ⟨k1.trans e1, k2.trans e2, k3.trans e3⟩
theorem cnt_same {s : RS} {n : Int} {p : Par} (h1 : n ≠ 1) (h4 : n ≠ 4) (h17 : n ≠ 17) : cntS (nextS s n p) = cntS s := by
  simp [cntS, nextS, h1, h4, h17]
theorem cnt_one {s : RS} {p : Par} (h : s.a = false) : cntS (nextS s 1 p) = cntS s + 1 := by
  simp [cntS, nextS, h, b2n]; omega
theorem cnt_four {s : RS} {p : Par} (h : s.b = false) : cntS (nextS s 4 p) = cntS s + 1 := by
  simp [cntS, nextS, h, b2n]; omega
theorem cnt_last {s : RS} {p : Par} (h : s.c = false) : cntS (nextS s 17 p) = cntS s + 1 := by
  simp [cntS, nextS, h, b2n]
theorem cnt_full (s : RS) : cntS s = 3 ↔ s.a = true ∧ s.b = true ∧ s.c = true := by
  obtain ⟨p, l, a, b, c⟩ := s
  cases a <;> cases b <;> cases c <;> simp [cntS, b2n]
/-- What stands between two rounds of the versions' loop. -/
def VJ (w : World) (g : Nat) (p : Par) (s : ParS) (xs : List Int) (k : Nat) (W : World) : Prop :=
  PutG g w W ∧ ∃ A5 c5, W.heap[g]? = some (.cells (VCs p s (chK p xs k) (.slice A5 (vsK xs k).length c5)) 25 (0, 0)) ∧ OwnI W w.heap.size .i64 (.slice A5 (vsK xs k).length c5) (vsK xs k)
def RReadPost (xs : List Int) (w : World) (e : Ending) (w' : World) : Prop :=
  ∃ s', e = .returned (.tuple #[.agg (parCs (readP xs).1 s'), .int .i64 (readP xs).2]) ∧ ParAt w.heap.size w' (readP xs).1 s' ∧ Below w.heap.size w w'
/-- The result's box is emptied again. -/
theorem box0 {w u : World} {W : World} (hr : W.heap[w.heap.size]? = some (.cells par0Cs 25 (0, 0))) (hb : Below w.heap.size w W) (hu : u = World.setRow W w.heap.size par0Cs) :
    ParD u w.heap.size par0 ⟨none, 0, none, 0, none, 0, none, 0⟩ ∧ Below w.heap.size w u := by
  subst hu
  exact ⟨setRow_heap _ w.heap.size _ _ _ _ hr, below_setRow hb (Nat.le_refl _) _⟩
theorem RReadPost.no {xs : List Int} {w u : World} {n : Int} (h : readP xs = (par0, n)) (hb : Below w.heap.size w u) : RReadPost xs w (.returned (.tuple #[.agg (parCs par0 ⟨none, 0, none, 0, none, 0, none, 0⟩), .int .i64 n])) u := by
  refine ⟨⟨none, 0, none, 0, none, 0, none, 0⟩, ?_, ?_, hb⟩
  · rw [h]
  · rw [h]; exact ⟨Rds.nil _ _ _, Rds.nil _ _ _, Rds.nil _ _ _, Rds.nil _ _ _⟩
set_option maxHeartbeats 25600000 in
set_option maxRecDepth 100000 in
theorem rreadP_any {A : Option Addr} {c : Nat} {xs : List Int} (w : World) (h : Rds w.heap.size w .u8 A xs.length c xs) (hb : Byt xs) :
    Calls Tryd.prog 23 #[.slice A xs.length c] w (RReadPost xs w) := by
  have HB := Lib.hid hb
  have HR := Lib.hid h
  have hcap := h.cap
  have hmax := h.max
  obtain ⟨W, hW⟩ : ∃ W, W = w.alloc (.cells par0Cs 25) := ⟨_, rfl⟩
  have HBW : Hid (Below w.heap.size w W) := by rw [hW]; exact below_new _
  have HG : Hid (W.heap[w.heap.size]? = some (.cells par0Cs 25 (0, 0))) := by rw [hW]; exact heap_alloc_new w _
  clear h hb
  unfold par0Cs at hW
  by_cases hl : 500 < xs.length
  · have hli : (xs.length : Int) > 500 := by omega
    have HP : Hid (readP xs = (par0, 4)) := if_pos hl
    go_enter Tryd.func23, Tryd.ntmps23
    subst hW
    go_wp2_with ((with_reducible show wpList _ _ _ (Oper.mk _ (Op.store 25 (.tmp 2) _) _ _ _ _ :: _) _ _); (refine wp_store_row rfl rfl _ _ _ rfl w.heap.size _ _ 25 rfl rfl rpar_size HG.out rfl (by simp [Value.oneCell']) ?_))
    obtain ⟨u, hu⟩ : ∃ u, u = World.setRow (w.alloc (.cells par0Cs 25)) w.heap.size par0Cs := ⟨_, rfl⟩
    obtain ⟨hud, hub⟩ := box0 HG.out HBW.out hu
    unfold par0Cs at hu
    rw [← hu]
    obtain ⟨⟨z0, z1, z2, z3, z4⟩, z5, z6, z7, z8, z9⟩ := hud.ten
    have HUB := Lib.hid hub
    clear hu hud hub
    go_wp2_with fail
    refine bodyPost_ret (v := .tuple #[.agg (parCs par0 ⟨none, 0, none, 0, none, 0, none, 0⟩), .int .i64 4]) (by simp [results, Tryd.results23, go_sem, z0, z1, z2, z3, z4, z5, z6, z7, z8, z9, parCs]) rfl ?_
    exact RReadPost.no HP.out HUB.out
  have hli : ¬ ((xs.length : Int) > 500) := by omega
  obtain ⟨R, hR⟩ : ∃ R, R = readR xs := ⟨_, rfl⟩
  have HPR : Hid (readP xs = match (generalizing := false) R with | some p => (p, 0) | none => (par0, 3)) := by rw [hR]; exact readP_short hl
  have HR0 := Lib.hid hR
  have HL := Lib.hid hl
  clear hR hl
  obtain ⟨W2, hW2⟩ : ∃ W2, W2 = W.alloc (.cells par0Cs 25) := ⟨_, rfl⟩
  have hs1 : W.heap.size = w.heap.size + 1 := by rw [hW]; simp
  have HJ0 : Hid (RJ w rs0 ⟨none, 0, none, 0, none, 0, none, 0⟩ W2) := by
    have hb2 : Below W.heap.size W W2 := by rw [hW2]; exact below_new _
    refine ⟨?_, ⟨Rds.nil _ _ _, Rds.nil _ _ _, Rds.nil _ _ _, Rds.nil _ _ _⟩, fun _ => ⟨rfl, rfl, rfl⟩, free0, below_next HBW.out HBW.out.size hb2, (hb2.block _ (lt_of_get HG.out)).trans HG.out⟩
    show W2.heap[w.heap.size + 1]? = _
    rw [hW2, ← hs1]
    exact heap_alloc_new W _
  have HRd : Hid (Rds w.heap.size W2 .u8 A xs.length c xs) := HR.out.below HJ0.out.bl
  clear hs1
  unfold par0Cs at hW2
  go_enter Tryd.func23, Tryd.ntmps23
  go_wp2_with fail
  rw [← hW, ← hW2]
  clear hW hW2
  go_loopw [0, 5, 6] (fun b l m wr => ∃ (f : Nat) (s : RS) (t : ParS) (A' : Option Addr) (c' : Nat) (rs : List Int), b = .slice A' rs.length c' ∧ l = .int .i64 s.last ∧ m = .int .i64 (cntS s : Nat) ∧ rs.length ≤ f ∧ Byt rs ∧ rs.length ≤ xs.length ∧ (R = (parseS f s rs).bind fun s => if endS s then some s.p else none) ∧ Rds w.heap.size wr .u8 A' rs.length c' rs ∧ s.p.vs.length ≤ 1000 ∧ RJ w s t wr) (fun b _ _ _ => lenSl b)
  case atStart => exact ⟨_, rs0, _, A, c, xs, rfl, rfl, rfl, Nat.le_refl _, HB.out, Nat.le_refl _, HR0.out, HRd.out, Nat.zero_le _, HJ0.out⟩
  case round =>
    obtain ⟨f, s, t, A', c', rs, rfl, rfl, rfl, hf, hby, hrl, hpar, hrd, hvl, hJ⟩ := hrel
    have HJ := Lib.hid hJ
    have HVl := Lib.hid hvl
    have HPa := Lib.hid hpar
    have HF := Lib.hid hf
    have HBr := Lib.hid hby
    have HRl := Lib.hid hrl
    have HRd' := Lib.hid hrd
    have hcap := hrd.cap
    have hmax := hrd.max
    clear hJ hpar hf hby hrl hrd hvl
    by_cases hne : rs = []
    · subst hne
      have HRe : Hid (R = if endS s then some s.p else none) := by show _ = _; rw [HPa.out, parseS_nil]; rfl
      obtain ⟨m, hm⟩ : ∃ m, m = cntS s := ⟨_, rfl⟩
      rw [← hm]
      have HM := Lib.hid hm
      clear hm
      by_cases hm3 : m = 3
      rotate_left
      · have hmi : ((m : Int) != 3) = true := by simp; omega
        have HP3 : Hid (readP xs = (par0, 3)) := by
          show _ = _
          have : R = none := by rw [HRe.out]; exact if_neg fun q => hm3 (HM.out.trans ((cnt_full s).2 ⟨q.1, q.2.1, q.2.2.1⟩))
          rw [HPR.out, this]
        clear hm3
        go_wp2_with ((with_reducible show wpList _ _ _ (Oper.mk _ (Op.store 25 (.tmp 2) _) _ _ _ _ :: _) _ _); (refine wp_store_row rfl rfl _ _ _ rfl w.heap.size _ _ 25 rfl rfl rpar_size HJ.out.r0 rfl (by simp [Value.oneCell']) ?_))
        obtain ⟨u, hu⟩ : ∃ u, u = World.setRow wr w.heap.size par0Cs := ⟨_, rfl⟩
        obtain ⟨hud, hub⟩ := box0 HJ.out.r0 HJ.out.bl hu
        unfold par0Cs at hu
        rw [← hu]
        obtain ⟨⟨z0, z1, z2, z3, z4⟩, z5, z6, z7, z8, z9⟩ := hud.ten
        have HUB := Lib.hid hub
        clear hu hud hub
        go_wp2_with fail
        refine bodyPost_ret (v := .tuple #[.agg (parCs par0 ⟨none, 0, none, 0, none, 0, none, 0⟩), .int .i64 3]) (by simp [results, Tryd.results23, go_sem, z0, z1, z2, z3, z4, z5, z6, z7, z8, z9, parCs]) rfl ?_
        exact RReadPost.no HP3.out HUB.out
      subst hm3
      have rr := rright_any s.p t wr HJ.out.h HVl.out
      obtain ⟨⟨a0, a1, a2, a3, a4⟩, a5, a6, a7, a8, a9⟩ := HJ.out.d.ten
      unfold parCs RightPost at rr
      go_wp2_with fail
      refine rr.mono ?_
      clear rr a0 a1 a2 a3 a4 a5 a6 a7 a8 a9
      rintro e w2 ⟨rfl, hb2⟩
      have HJ2 := Lib.hid (HJ.out.below hb2)
      clear hb2
      by_cases hrp : rightP s.p
      rotate_left
      · have HP3 : Hid (readP xs = (par0, 3)) := by
          show _ = _
          have : R = none := by rw [HRe.out]; exact if_neg fun q => hrp q.2.2.2
          rw [HPR.out, this]
        rw [decide_eq_false hrp]
        clear hrp
        go_wp2_with ((with_reducible show wpList _ _ _ (Oper.mk _ (Op.store 25 (.tmp 2) _) _ _ _ _ :: _) _ _); (refine wp_store_row rfl rfl _ _ _ rfl w.heap.size _ _ 25 rfl rfl rpar_size HJ2.out.r0 rfl (by simp [Value.oneCell']) ?_))
        obtain ⟨u, hu⟩ : ∃ u, u = World.setRow w2 w.heap.size par0Cs := ⟨_, rfl⟩
        obtain ⟨hud, hub⟩ := box0 HJ2.out.r0 HJ2.out.bl hu
        unfold par0Cs at hu
        rw [← hu]
        obtain ⟨⟨z0, z1, z2, z3, z4⟩, z5, z6, z7, z8, z9⟩ := hud.ten
        have HUB := Lib.hid hub
        clear hu hud hub
        go_wp2_with fail
        refine bodyPost_ret (v := .tuple #[.agg (parCs par0 ⟨none, 0, none, 0, none, 0, none, 0⟩), .int .i64 3]) (by simp [results, Tryd.results23, go_sem, z0, z1, z2, z3, z4, z5, z6, z7, z8, z9, parCs]) rfl ?_
        exact RReadPost.no HP3.out HUB.out
      have HPS : Hid (readP xs = (s.p, 0)) := by
        show _ = _
        obtain ⟨e1, e2, e3⟩ := (cnt_full s).1 HM.out.symm
        have : R = some s.p := by rw [HRe.out]; exact if_pos ⟨e1, e2, e3, hrp⟩
        rw [HPR.out, this]
      rw [decide_eq_true hrp]
      clear hrp
      obtain ⟨⟨a0, a1, a2, a3, a4⟩, a5, a6, a7, a8, a9⟩ := HJ2.out.d.ten
      go_wp2_with ((with_reducible show wpList _ _ _ (Oper.mk _ (Op.store 25 (.tmp 2) _) _ _ _ _ :: _) _ _); (refine wp_store_row rfl rfl _ _ _ rfl w.heap.size _ _ 25 rfl rfl rpar_size HJ2.out.r0 rfl (by simp [Value.oneCell']) ?_))
      obtain ⟨u, hu⟩ : ∃ u, u = World.setRow w2 w.heap.size (parCs s.p t) := ⟨_, rfl⟩
      have hux : ParD u w.heap.size s.p t := by show u.heap[w.heap.size]? = _; rw [hu]; exact setRow_heap _ w.heap.size _ _ _ _ HJ2.out.r0
      have hup : PutG w.heap.size w2 u := by rw [hu]; exact ⟨below_setRow (Below.refl _ _) (Nat.le_refl _) _, fun k _ hne => setRow_other _ _ _ _ hne⟩
      have HAt : Hid (ParAt w.heap.size u s.p t) := HJ2.out.h.putR (Nat.le_refl _) hup HJ2.out.r0
      have HBu : Hid (Below w.heap.size w u) := HJ2.out.bl.trans hup.bl
      unfold parCs at hu
      rw [← hu]
      obtain ⟨⟨z0, z1, z2, z3, z4⟩, z5, z6, z7, z8, z9⟩ := hux.ten
      clear hu hux hup a0 a1 a2 a3 a4 a5 a6 a7 a8 a9
      go_wp2_with fail
      refine bodyPost_ret (v := .tuple #[.agg (parCs s.p t), .int .i64 0]) (by simp [results, Tryd.results23, go_sem, z0, z1, z2, z3, z4, z5, z6, z7, z8, z9, parCs]) rfl ?_
      refine ⟨t, ?_, ?_, HBu.out⟩
      · rw [HPS.out]
      · rw [HPS.out]; exact HAt.out
    · have hpos : 0 < rs.length := List.length_pos_iff.2 hne
      have hpi : (rs.length : Int) > 0 := by omega
      have HNe := Lib.hid hne
      clear hne
      have key := rread_any A' rs.length c' rs wr HRd'.out HBr.out
      obtain ⟨n, sz, er, hrv⟩ : ∃ n sz er, readV rs = (n, sz, er) := ⟨_, _, _, rfl⟩
      have HRv := Lib.hid hrv
      unfold ReadPost at key
      rw [hrv] at key
      simp only at key
      clear hrv
      obtain ⟨last, hla⟩ : ∃ l, l = s.last := ⟨_, rfl⟩
      rw [← hla]
      have HLa := Lib.hid hla
      clear hla
      have HN3 : Hid (∀ q : R = none, readP xs = (par0, 3)) := fun q => by rw [HPR.out, q]
      have HSt : Hid (¬ (er = 0 ∧ s.last < n) → R = none) := fun hh => by
        obtain ⟨f', -, e2⟩ := parseS_step (s := s) HF.out HNe.out
        have e3 : stepS s rs = none := by unfold stepS; rw [HRv.out]; exact if_neg hh
        rw [HPa.out, e2, e3]; rfl
      by_cases he : er = 0
      rotate_left
      · have HP3 : Hid (readP xs = (par0, 3)) := HN3.out (HSt.out fun q => he q.1)
        have he' : (er != 0) = true := by simp [he]
        clear he
        go_wp2_with fail
        refine key.mono ?_
        clear key
        rintro e w1 ⟨rfl, hw1⟩
        obtain rfl : w1 = wr := hw1.symm
        go_wp2_with ((with_reducible show wpList _ _ _ (Oper.mk _ (Op.store 25 (.tmp 2) _) _ _ _ _ :: _) _ _); (refine wp_store_row rfl rfl _ _ _ rfl w.heap.size _ _ 25 rfl rfl rpar_size HJ.out.r0 rfl (by simp [Value.oneCell']) ?_))
        obtain ⟨u, hu⟩ : ∃ u, u = World.setRow w1 w.heap.size par0Cs := ⟨_, rfl⟩
        obtain ⟨hud, hub⟩ := box0 HJ.out.r0 HJ.out.bl hu
        unfold par0Cs at hu
        rw [← hu]
        obtain ⟨⟨z0, z1, z2, z3, z4⟩, z5, z6, z7, z8, z9⟩ := hud.ten
        have HUB := Lib.hid hub
        clear hu hud hub
        go_wp2_with fail
        refine bodyPost_ret (v := .tuple #[.agg (parCs par0 ⟨none, 0, none, 0, none, 0, none, 0⟩), .int .i64 3]) (by simp [results, Tryd.results23, go_sem, z0, z1, z2, z3, z4, z5, z6, z7, z8, z9, parCs]) rfl ?_
        exact RReadPost.no HP3.out HUB.out
      subst he
      by_cases hln : last < n
      rotate_left
      · have HP3 : Hid (readP xs = (par0, 3)) := HN3.out (HSt.out fun q => hln (by rw [HLa.out]; exact q.2))
        have hln' : n ≤ last := by omega
        clear hln
        go_wp2_with fail
        refine key.mono ?_
        clear key
        rintro e w1 ⟨rfl, hw1⟩
        obtain rfl : w1 = wr := hw1.symm
        go_wp2_with ((with_reducible show wpList _ _ _ (Oper.mk _ (Op.store 25 (.tmp 2) _) _ _ _ _ :: _) _ _); (refine wp_store_row rfl rfl _ _ _ rfl w.heap.size _ _ 25 rfl rfl rpar_size HJ.out.r0 rfl (by simp [Value.oneCell']) ?_))
        obtain ⟨u, hu⟩ : ∃ u, u = World.setRow w1 w.heap.size par0Cs := ⟨_, rfl⟩
        obtain ⟨hud, hub⟩ := box0 HJ.out.r0 HJ.out.bl hu
        unfold par0Cs at hu
        rw [← hu]
        obtain ⟨⟨z0, z1, z2, z3, z4⟩, z5, z6, z7, z8, z9⟩ := hud.ten
        have HUB := Lib.hid hub
        clear hu hud hub
        go_wp2_with fail
        refine bodyPost_ret (v := .tuple #[.agg (parCs par0 ⟨none, 0, none, 0, none, 0, none, 0⟩), .int .i64 3]) (by simp [results, Tryd.results23, go_sem, z0, z1, z2, z3, z4, z5, z6, z7, z8, z9, parCs]) rfl ?_
        exact RReadPost.no HP3.out HUB.out
      have HLn : Hid (s.last < n) := by show _ < _; rw [← HLa.out]; exact hln
      have hln' : ¬ n ≤ last := by omega
      have hsz : sz ≤ rs.length := by have := (rd_ok (xs := rs) (by rw [HRv.out])).1; rw [HRv.out] at this; exact this
      clear hln
      go_wp2_with fail
      refine key.mono ?_
      clear key
      rintro e w2 ⟨rfl, hw1⟩
      obtain rfl : w2 = wr := hw1.symm
      go_wp2_with ((with_reducible show wpList _ _ _ (Oper.mk _ (Op.slice _ _ _ _ _) _ _ _ _ :: _) _ _); refine wp_cut rfl _ _ rfl rfl rfl sz rfl hsz HRd'.out ?_; intro hr2; have HR2 := Lib.hid hr2; clear hr2)
      have HVle : Hid ((takeV (rs.drop sz)).1.length ≤ rs.length) := by have := takeV_len (rs.drop sz); simp at this; show _ ≤ _; omega
      clear hsz hln'
      have key := rtake_any _ _ _ _ w2 HR2.out (byt_drop HBr.out sz) (by have := HRl.out; have := HL.out; omega)
      obtain ⟨va, re, er, htv⟩ : ∃ va re er, takeV (rs.drop sz) = (va, re, er) := ⟨_, _, _, rfl⟩
      have HTv := Lib.hid htv
      have hby2 := takeV_byt (byt_drop HBr.out sz)
      have HVal : Hid (va.length ≤ rs.length) := by have := HVle.out; rw [htv] at this; exact this
      unfold RTakePost at key
      rw [htv] at key hby2
      simp only at key hby2
      have HVy := Lib.hid hby2.1
      have HRy := Lib.hid hby2.2
      clear htv hby2 HVle
      refine key.mono ?_
      clear key
      rintro e w3 ⟨V1, d1, V2, d2, rfl, ho1, ho2, hb3⟩
      have HJ3 := Lib.hid (HJ.out.below hb3)
      have HV3 := Lib.hid ho1
      have HR3 := Lib.hid ho2
      have hvcap := ho1.cap
      have hvmax := ho1.max
      clear ho1 ho2 hb3
      have HSt2 : Hid (¬ (er = 0) → R = none) := fun hh => by
        obtain ⟨f', -, e2⟩ := parseS_step (s := s) HF.out HNe.out
        have e3 : stepS s rs = none := by
          unfold stepS; rw [HRv.out]
          simp only
          rw [if_pos ⟨by first | rfl | trivial, HLn.out⟩, HTv.out]
          exact if_neg hh
        rw [HPa.out, e2, e3]; rfl
      by_cases he : er = 0
      rotate_left
      · have HP3 : Hid (readP xs = (par0, 3)) := HN3.out (HSt2.out he)
        have he' : (er != 0) = true := by simp [he]
        clear he
        go_wp2_with ((with_reducible show wpList _ _ _ (Oper.mk _ (Op.store 25 (.tmp 2) _) _ _ _ _ :: _) _ _); (refine wp_store_row rfl rfl _ _ _ rfl w.heap.size _ _ 25 rfl rfl rpar_size HJ3.out.r0 rfl (by simp [Value.oneCell']) ?_))
        obtain ⟨u, hu⟩ : ∃ u, u = World.setRow w3 w.heap.size par0Cs := ⟨_, rfl⟩
        obtain ⟨hud, hub⟩ := box0 HJ3.out.r0 HJ3.out.bl hu
        unfold par0Cs at hu
        rw [← hu]
        obtain ⟨⟨z0, z1, z2, z3, z4⟩, z5, z6, z7, z8, z9⟩ := hud.ten
        have HUB := Lib.hid hub
        clear hu hud hub
        go_wp2_with fail
        refine bodyPost_ret (v := .tuple #[.agg (parCs par0 ⟨none, 0, none, 0, none, 0, none, 0⟩), .int .i64 3]) (by simp [results, Tryd.results23, go_sem, z0, z1, z2, z3, z4, z5, z6, z7, z8, z9, parCs]) rfl ?_
        exact RReadPost.no HP3.out HUB.out
      subst he
      have HE3 : Hid (stepS s rs = (setP s.p n va).map fun p => (nextS s n p, re)) := by
        show _ = _
        unfold stepS; rw [HRv.out]
        simp only
        rw [if_pos ⟨by first | rfl | trivial, HLn.out⟩, HTv.out]
        rfl
      obtain ⟨f', hf', hpf⟩ := parseS_step (s := s) HF.out HNe.out
      have HSt4 : Hid (R = ((setP s.p n va).map fun p => (nextS s n p, re)).bind fun y => (parseS f' y.1 y.2).bind fun s => if endS s then some s.p else none) := by
        show _ = _
        rw [HPa.out, hpf, HE3.out]
        cases setP s.p n va <;> rfl
      have HF' := Lib.hid hf'
      have HNo : Hid (setP s.p n va = none → readP xs = (par0, 3)) := fun q => HN3.out (by rw [HSt4.out, q]; rfl)
      have HYes : Hid (∀ p', setP s.p n va = some p' → R = ((parseS f' (nextS s n p') re).bind fun s => if endS s then some s.p else none) ∧ FreeS (nextS s n p') ∧ re.length < rs.length ∧ p'.vs.length ≤ 1000) := fun p' q => by
        have e1 : stepS s rs = some (nextS s n p', re) := by rw [HE3.out, q]; rfl
        refine ⟨by rw [HSt4.out, q]; rfl, (step_back HBr.out HJ.out.fr e1).1, stepS_short HBr.out e1, ?_⟩
        exact setP_small q (by have := HVal.out; have := HRl.out; have := HL.out; omega) (fun h17 => (HJ.out.fr.f17 (by have := HLn.out; omega)).2) HVl.out
      clear hf' hpf
      have hd3 := HJ3.out.d
      unfold ParD at hd3
      obtain ⟨⟨a0, a1, a2, a3, a4⟩, a5, a6, a7, a8, a9⟩ := HJ3.out.d.ten
      by_cases h0 : n = 0
      · subst h0
        have f2 : w3.frozen? ⟨w.heap.size + 1, 2, none⟩ = false := frozen_of_row w3 (w.heap.size + 1) 2 _ _ hd3
        have f5 : (w3.setCell ⟨w.heap.size + 1, 2, none⟩ (.bool true)).frozen? ⟨w.heap.size + 1, 5, none⟩ = false := frozen_of_row _ (w.heap.size + 1) 5 _ _ (in7_set hd3 _)
        have hp : PutG (w.heap.size + 1) w3 ((w3.setCell ⟨w.heap.size + 1, 2, none⟩ (.bool true)).setCell ⟨w.heap.size + 1, 5, none⟩ (.slice V1 va.length d1)) := (PutG.cell 2 _).trans (PutG.cell 5 _)
        have HY := Lib.hid (HYes.out { s.p with hg := true, goal := va } rfl)
        have HN7 : Hid (RJ w (nextS s 0 { s.p with hg := true, goal := va }) { t with gA := V1, gc := d1 } ((w3.setCell ⟨w.heap.size + 1, 2, none⟩ (.bool true)).setCell ⟨w.heap.size + 1, 5, none⟩ (.slice V1 va.length d1))) :=
          HJ3.out.step hp (in7_set (in7_set hd3 _) _) ⟨HV3.out, HJ3.out.h.own, HJ3.out.h.retry, HJ3.out.h.vs⟩ HY.out.2.1 (fun _ => ⟨rfl, rfl, rfl⟩)
        have HR7 := Lib.hid (HR3.out.putG hp (HR3.out.offR (by omega) hd3))
        have HC : Hid (cntS (nextS s 0 { s.p with hg := true, goal := va }) = cntS s) := cnt_same (by decide) (by decide) (by decide)
        clear hp hd3
        go_wp2_with fail
        go_roundw
        case rel => exact ⟨f', nextS s 0 { s.p with hg := true, goal := va }, { t with gA := V1, gc := d1 }, V2, d2, re, rfl, rfl, by rw [HC.out], by have := HF'.out; have := HF.out; have := HY.out.2.2.1; omega, HRy.out, by have := HY.out.2.2.1; have := HRl.out; omega, HY.out.1, HR7.out, HY.out.2.2.2, HN7.out⟩
        case measure => exact HY.out.2.2.1
      have k0 : (n == 0) = false := by simp [h0]
      by_cases h1 : n = 1
      · subst h1
        have key := rwhole_any V1 _ d1 va w3 HV3.out HVy.out
        unfold WholePost at key
        obtain ⟨x, hx⟩ : ∃ x, x = (readV va).1 := ⟨_, rfl⟩
        rw [← hx] at key
        have f2 : w3.frozen? ⟨w.heap.size + 1, 0, none⟩ = false := frozen_of_row w3 (w.heap.size + 1) 0 _ _ hd3
        have hp : PutG (w.heap.size + 1) w3 (w3.setCell ⟨w.heap.size + 1, 0, none⟩ (.int .i64 x)) := PutG.cell 0 _
        have HP := Lib.hid hp
        have hcn : (cntS s : Int) < 1000 ∧ 0 ≤ (cntS s : Int) := by have : cntS s ≤ 3 := by (unfold cntS b2n; split <;> split <;> split <;> omega)
                                                                    omega
        obtain ⟨m, hm⟩ : ∃ m, m = cntS s := ⟨_, rfl⟩
        rw [← hm] at hcn ⊢
        have HM := Lib.hid hm
        have hset : setP s.p 1 va = (numV va).map fun x => { s.p with idle := x } := rfl
        have HST := Lib.hid hset
        have HD3 := Lib.hid hd3
        clear hp hm hset
        cases hnv : numV va with
        | none =>
          rw [hnv] at key HST
          have HP3 : Hid (readP xs = (par0, 3)) := HNo.out HST.out
          clear hnv hx hd3
          simp only [Option.isSome_none] at key
          go_wp2_with fail
          refine key.mono ?_
          clear key
          rintro e w4 ⟨rfl, hw4⟩
          obtain rfl : w4 = w3 := hw4.symm
          have hr0 : (w4.setCell ⟨w.heap.size + 1, 0, none⟩ (.int .i64 x)).heap[w.heap.size]? = some (.cells par0Cs 25 (0, 0)) := (HP.out.off _ (lt_of_get HJ3.out.r0) (by omega)).trans HJ3.out.r0
          have hbl : Below w.heap.size w (w4.setCell ⟨w.heap.size + 1, 0, none⟩ (.int .i64 x)) := HJ3.out.bl.trans (HP.out.bl.mono (by omega))
          have HR0' := Lib.hid hr0
          have HBL := Lib.hid hbl
          clear hr0 hbl
          go_wp2_with ((with_reducible show wpList _ _ _ (Oper.mk _ (Op.store 25 (.tmp 2) _) _ _ _ _ :: _) _ _); (refine wp_store_row rfl rfl _ _ _ rfl w.heap.size _ _ 25 rfl rfl rpar_size HR0'.out rfl (by simp [Value.oneCell']) ?_))
          obtain ⟨u, hu⟩ : ∃ u, u = World.setRow (w4.setCell ⟨w.heap.size + 1, 0, none⟩ (.int .i64 x)) w.heap.size par0Cs := ⟨_, rfl⟩
          obtain ⟨hud, hub⟩ := box0 HR0'.out HBL.out hu
          unfold par0Cs at hu
          rw [← hu]
          obtain ⟨⟨z0, z1, z2, z3, z4⟩, z5, z6, z7, z8, z9⟩ := hud.ten
          have HUB := Lib.hid hub
          clear hu hud hub
          go_wp2_with fail
          refine bodyPost_ret (v := .tuple #[.agg (parCs par0 ⟨none, 0, none, 0, none, 0, none, 0⟩), .int .i64 3]) (by simp [results, Tryd.results23, go_sem, z0, z1, z2, z3, z4, z5, z6, z7, z8, z9, parCs]) rfl ?_
          exact RReadPost.no HP3.out HUB.out
        | some y =>
          rw [hnv] at key HST
          have hxy : x = y := by
            rw [hx]
            unfold numV at hnv
            split at hnv
            · exact Option.some.inj hnv
            · cases hnv
          subst hxy
          have HY := Lib.hid (HYes.out _ HST.out)
          have hlast : s.last < 1 := HLn.out
          have HC : Hid (cntS (nextS s 1 { s.p with idle := x }) = m + 1) := by show _ = _; rw [HM.out]; exact cnt_one (HJ.out.fr.f1 hlast)
          have HN7 : Hid (RJ w (nextS s 1 { s.p with idle := x }) t (w3.setCell ⟨w.heap.size + 1, 0, none⟩ (.int .i64 x))) :=
            HJ3.out.step HP.out (in7_set HD3.out _) ⟨HJ3.out.h.goal, HJ3.out.h.own, HJ3.out.h.retry, HJ3.out.h.vs⟩ HY.out.2.1 (fun _ => ⟨rfl, rfl, rfl⟩)
          have HR7 := Lib.hid (HR3.out.putG HP.out (HR3.out.offR (by omega) HD3.out))
          clear hnv hx hd3 hlast
          simp only [Option.isSome_some] at key
          go_wp2_with fail
          refine key.mono ?_
          clear key
          rintro e w4 ⟨rfl, hw4⟩
          obtain rfl : w4 = w3 := hw4.symm
          go_wp2_with fail
          go_roundw
          case rel => exact ⟨f', nextS s 1 { s.p with idle := x }, t, V2, d2, re, rfl, rfl, by rw [HC.out]; go_num, by have := HF'.out; have := HF.out; have := HY.out.2.2.1; omega, HRy.out, by have := HY.out.2.2.1; have := HRl.out; omega, HY.out.1, HR7.out, HY.out.2.2.2, HN7.out⟩
          case measure => exact HY.out.2.2.1
      have k1 : (n == 1) = false := by simp [h1]
      by_cases h4 : n = 4
      · subst h4
        have key := rwhole_any V1 _ d1 va w3 HV3.out HVy.out
        unfold WholePost at key
        obtain ⟨x, hx⟩ : ∃ x, x = (readV va).1 := ⟨_, rfl⟩
        rw [← hx] at key
        have f2 : w3.frozen? ⟨w.heap.size + 1, 1, none⟩ = false := frozen_of_row w3 (w.heap.size + 1) 1 _ _ hd3
        have hp : PutG (w.heap.size + 1) w3 (w3.setCell ⟨w.heap.size + 1, 1, none⟩ (.int .i64 x)) := PutG.cell 1 _
        have HP := Lib.hid hp
        have hcn : (cntS s : Int) < 1000 ∧ 0 ≤ (cntS s : Int) := by have : cntS s ≤ 3 := by (unfold cntS b2n; split <;> split <;> split <;> omega)
                                                                    omega
        obtain ⟨m, hm⟩ : ∃ m, m = cntS s := ⟨_, rfl⟩
        rw [← hm] at hcn ⊢
        have HM := Lib.hid hm
        have hset : setP s.p 4 va = (numV va).map fun x => { s.p with data := x } := rfl
        have HST := Lib.hid hset
        have HD3 := Lib.hid hd3
        clear hp hm hset
        cases hnv : numV va with
        | none =>
          rw [hnv] at key HST
          have HP3 : Hid (readP xs = (par0, 3)) := HNo.out HST.out
          clear hnv hx hd3
          simp only [Option.isSome_none] at key
          go_wp2_with fail
          refine key.mono ?_
          clear key
          rintro e w4 ⟨rfl, hw4⟩
          obtain rfl : w4 = w3 := hw4.symm
          have hr0 : (w4.setCell ⟨w.heap.size + 1, 1, none⟩ (.int .i64 x)).heap[w.heap.size]? = some (.cells par0Cs 25 (0, 0)) := (HP.out.off _ (lt_of_get HJ3.out.r0) (by omega)).trans HJ3.out.r0
          have hbl : Below w.heap.size w (w4.setCell ⟨w.heap.size + 1, 1, none⟩ (.int .i64 x)) := HJ3.out.bl.trans (HP.out.bl.mono (by omega))
          have HR0' := Lib.hid hr0
          have HBL := Lib.hid hbl
          clear hr0 hbl
          go_wp2_with ((with_reducible show wpList _ _ _ (Oper.mk _ (Op.store 25 (.tmp 2) _) _ _ _ _ :: _) _ _); (refine wp_store_row rfl rfl _ _ _ rfl w.heap.size _ _ 25 rfl rfl rpar_size HR0'.out rfl (by simp [Value.oneCell']) ?_))
          obtain ⟨u, hu⟩ : ∃ u, u = World.setRow (w4.setCell ⟨w.heap.size + 1, 1, none⟩ (.int .i64 x)) w.heap.size par0Cs := ⟨_, rfl⟩
          obtain ⟨hud, hub⟩ := box0 HR0'.out HBL.out hu
          unfold par0Cs at hu
          rw [← hu]
          obtain ⟨⟨z0, z1, z2, z3, z4⟩, z5, z6, z7, z8, z9⟩ := hud.ten
          have HUB := Lib.hid hub
          clear hu hud hub
          go_wp2_with fail
          refine bodyPost_ret (v := .tuple #[.agg (parCs par0 ⟨none, 0, none, 0, none, 0, none, 0⟩), .int .i64 3]) (by simp [results, Tryd.results23, go_sem, z0, z1, z2, z3, z4, z5, z6, z7, z8, z9, parCs]) rfl ?_
          exact RReadPost.no HP3.out HUB.out
        | some y =>
          rw [hnv] at key HST
          have hxy : x = y := by
            rw [hx]
            unfold numV at hnv
            split at hnv
            · exact Option.some.inj hnv
            · cases hnv
          subst hxy
          have HY := Lib.hid (HYes.out _ HST.out)
          have hlast : s.last < 4 := HLn.out
          have HC : Hid (cntS (nextS s 4 { s.p with data := x }) = m + 1) := by show _ = _; rw [HM.out]; exact cnt_four (HJ.out.fr.f4 hlast)
          have HN7 : Hid (RJ w (nextS s 4 { s.p with data := x }) t (w3.setCell ⟨w.heap.size + 1, 1, none⟩ (.int .i64 x))) :=
            HJ3.out.step HP.out (in7_set HD3.out _) ⟨HJ3.out.h.goal, HJ3.out.h.own, HJ3.out.h.retry, HJ3.out.h.vs⟩ HY.out.2.1 (fun _ => ⟨rfl, rfl, rfl⟩)
          have HR7 := Lib.hid (HR3.out.putG HP.out (HR3.out.offR (by omega) HD3.out))
          clear hnv hx hd3 hlast
          simp only [Option.isSome_some] at key
          go_wp2_with fail
          refine key.mono ?_
          clear key
          rintro e w4 ⟨rfl, hw4⟩
          obtain rfl : w4 = w3 := hw4.symm
          go_wp2_with fail
          go_roundw
          case rel => exact ⟨f', nextS s 4 { s.p with data := x }, t, V2, d2, re, rfl, rfl, by rw [HC.out]; go_num, by have := HF'.out; have := HF.out; have := HY.out.2.2.1; omega, HRy.out, by have := HY.out.2.2.1; have := HRl.out; omega, HY.out.1, HR7.out, HY.out.2.2.2, HN7.out⟩
          case measure => exact HY.out.2.2.1
      have k4 : (n == 4) = false := by simp [h4]
      by_cases h15 : n = 15
      · subst h15
        have f2 : w3.frozen? ⟨w.heap.size + 1, 3, none⟩ = false := frozen_of_row w3 (w.heap.size + 1) 3 _ _ hd3
        have f5 : (w3.setCell ⟨w.heap.size + 1, 3, none⟩ (.bool true)).frozen? ⟨w.heap.size + 1, 6, none⟩ = false := frozen_of_row _ (w.heap.size + 1) 6 _ _ (in7_set hd3 _)
        have hp : PutG (w.heap.size + 1) w3 ((w3.setCell ⟨w.heap.size + 1, 3, none⟩ (.bool true)).setCell ⟨w.heap.size + 1, 6, none⟩ (.slice V1 va.length d1)) := (PutG.cell 3 _).trans (PutG.cell 6 _)
        have HY := Lib.hid (HYes.out { s.p with ho := true, own := va } rfl)
        have HN7 : Hid (RJ w (nextS s 15 { s.p with ho := true, own := va }) { t with oA := V1, oc := d1 } ((w3.setCell ⟨w.heap.size + 1, 3, none⟩ (.bool true)).setCell ⟨w.heap.size + 1, 6, none⟩ (.slice V1 va.length d1))) :=
          HJ3.out.step hp (in7_set (in7_set hd3 _) _) ⟨HJ3.out.h.goal, HV3.out, HJ3.out.h.retry, HJ3.out.h.vs⟩ HY.out.2.1 (fun _ => ⟨rfl, rfl, rfl⟩)
        have HR7 := Lib.hid (HR3.out.putG hp (HR3.out.offR (by omega) hd3))
        have HC : Hid (cntS (nextS s 15 { s.p with ho := true, own := va }) = cntS s) := cnt_same (by decide) (by decide) (by decide)
        clear hp hd3
        go_wp2_with fail
        go_roundw
        case rel => exact ⟨f', nextS s 15 { s.p with ho := true, own := va }, { t with oA := V1, oc := d1 }, V2, d2, re, rfl, rfl, by rw [HC.out], by have := HF'.out; have := HF.out; have := HY.out.2.2.1; omega, HRy.out, by have := HY.out.2.2.1; have := HRl.out; omega, HY.out.1, HR7.out, HY.out.2.2.2, HN7.out⟩
        case measure => exact HY.out.2.2.1
      have k15 : (n == 15) = false := by simp [h15]
      by_cases h16 : n = 16
      · subst h16
        have f2 : w3.frozen? ⟨w.heap.size + 1, 4, none⟩ = false := frozen_of_row w3 (w.heap.size + 1) 4 _ _ hd3
        have f5 : (w3.setCell ⟨w.heap.size + 1, 4, none⟩ (.bool true)).frozen? ⟨w.heap.size + 1, 7, none⟩ = false := frozen_of_row _ (w.heap.size + 1) 7 _ _ (in7_set hd3 _)
        have hp : PutG (w.heap.size + 1) w3 ((w3.setCell ⟨w.heap.size + 1, 4, none⟩ (.bool true)).setCell ⟨w.heap.size + 1, 7, none⟩ (.slice V1 va.length d1)) := (PutG.cell 4 _).trans (PutG.cell 7 _)
        have HY := Lib.hid (HYes.out { s.p with hr := true, retry := va } rfl)
        have HN7 : Hid (RJ w (nextS s 16 { s.p with hr := true, retry := va }) { t with rA := V1, rc := d1 } ((w3.setCell ⟨w.heap.size + 1, 4, none⟩ (.bool true)).setCell ⟨w.heap.size + 1, 7, none⟩ (.slice V1 va.length d1))) :=
          HJ3.out.step hp (in7_set (in7_set hd3 _) _) ⟨HJ3.out.h.goal, HJ3.out.h.own, HV3.out, HJ3.out.h.vs⟩ HY.out.2.1 (fun _ => ⟨rfl, rfl, rfl⟩)
        have HR7 := Lib.hid (HR3.out.putG hp (HR3.out.offR (by omega) hd3))
        have HC : Hid (cntS (nextS s 16 { s.p with hr := true, retry := va }) = cntS s) := cnt_same (by decide) (by decide) (by decide)
        clear hp hd3
        go_wp2_with fail
        go_roundw
        case rel => exact ⟨f', nextS s 16 { s.p with hr := true, retry := va }, { t with rA := V1, rc := d1 }, V2, d2, re, rfl, rfl, by rw [HC.out], by have := HF'.out; have := HF.out; have := HY.out.2.2.1; omega, HRy.out, by have := HY.out.2.2.1; have := HRl.out; omega, HY.out.1, HR7.out, HY.out.2.2.2, HN7.out⟩
        case measure => exact HY.out.2.2.1
      have k16 : (n == 16) = false := by simp [h16]
      by_cases h17 : n = 17
      rotate_left
      · have k17 : (n == 17) = false := by simp [h17]
        have HP3 : Hid (readP xs = (par0, 3)) := HNo.out (by unfold setP; rw [if_neg h0, if_neg h1, if_neg h4, if_neg h15, if_neg h16, if_neg h17])
        clear h0 h1 h4 h15 h16 h17 hd3 a0 a1 a2 a3 a4 a5 a6 a7 a8 a9
        go_wp2_with ((with_reducible show wpList _ _ _ (Oper.mk _ (Op.store 25 (.tmp 2) _) _ _ _ _ :: _) _ _); (refine wp_store_row rfl rfl _ _ _ rfl w.heap.size _ _ 25 rfl rfl rpar_size HJ3.out.r0 rfl (by simp [Value.oneCell']) ?_))
        obtain ⟨u, hu⟩ : ∃ u, u = World.setRow w3 w.heap.size par0Cs := ⟨_, rfl⟩
        obtain ⟨hud, hub⟩ := box0 HJ3.out.r0 HJ3.out.bl hu
        unfold par0Cs at hu
        rw [← hu]
        obtain ⟨⟨z0, z1, z2, z3, z4⟩, z5, z6, z7, z8, z9⟩ := hud.ten
        have HUB := Lib.hid hub
        clear hu hud hub
        go_wp2_with fail
        refine bodyPost_ret (v := .tuple #[.agg (parCs par0 ⟨none, 0, none, 0, none, 0, none, 0⟩), .int .i64 3]) (by simp [results, Tryd.results23, go_sem, z0, z1, z2, z3, z4, z5, z6, z7, z8, z9, parCs]) rfl ?_
        exact RReadPost.no HP3.out HUB.out
      subst h17
      clear h0 h1 h4 h15 h16 k0 k1 k4 k15 k16
      have hlast : s.last < 17 := HLn.out
      obtain ⟨hc17, hvs⟩ := HJ.out.fr.f17 hlast
      obtain ⟨-, hvA, hvc⟩ := HJ3.out.vs hc17
      have hcn : (cntS s : Int) < 1000 ∧ 0 ≤ (cntS s : Int) := by have : cntS s ≤ 3 := by (unfold cntS b2n; split <;> split <;> split <;> omega)
                                                                  omega
      obtain ⟨m, hm⟩ : ∃ m, m = cntS s := ⟨_, rfl⟩
      rw [← hm] at hcn ⊢
      have HC : Hid (∀ p', cntS (nextS s 17 p') = m + 1) := fun p' => by rw [hm]; exact cnt_last hc17
      have hset : setP s.p 17 va = if 4 ≤ va.length ∧ va.length % 4 = 0 then some { s.p with chosen := nth (versL va) 0, vs := (versL va).tail } else none := by
        simp [setP, hvs]
      have HST := Lib.hid hset
      have HVL : Hid (va.length ≤ 500) := by have := HVal.out; have := HRl.out; have := HL.out; show _ ≤ _; omega
      have HQ : Hid (VJ w3 (w.heap.size + 1) s.p t va 0 w3) := by
        refine ⟨PutG.refl _ _, none, 0, ?_, OwnI.nil _ _ _⟩
        have hb := hd3
        unfold parCs at hb
        rw [hvs, hvA, hvc] at hb
        exact hb
      have HNE := Lib.hid (HV3.out.offR (g := w.heap.size + 1) (by omega) hd3)
      have HG3 : Hid (w.heap.size + 1 < w3.heap.size) := lt_of_get hd3
      obtain ⟨N, hN⟩ : ∃ N, N = va.length / 4 := ⟨_, rfl⟩
      have HN := Lib.hid hN
      clear hset hd3 hlast hc17 hvs hvA hvc hm hN a0 a1 a2 a3 a4 a5 a6 a7 a8 a9
      by_cases h4 : 4 ≤ va.length
      rotate_left
      · have h4i : ¬ ((va.length : Int) ≥ 4) := by omega
        have h4j : ¬ ((4 : Int) ≤ (va.length : Int)) := by omega
        have HP3 : Hid (readP xs = (par0, 3)) := HNo.out (by rw [HST.out]; exact if_neg fun q => h4 q.1)
        clear h4
        go_wp2_with fail
        refine wp_loop_rounds 1 ?_
        rw [rounds_succ]
        go_wp2_with ((with_reducible show wpList _ _ _ (Oper.mk _ (Op.store 25 (.tmp 2) _) _ _ _ _ :: _) _ _); (refine wp_store_row rfl rfl _ _ _ rfl w.heap.size _ _ 25 rfl rfl rpar_size HJ3.out.r0 rfl (by simp [Value.oneCell']) ?_))
        obtain ⟨u, hu⟩ : ∃ u, u = World.setRow w3 w.heap.size par0Cs := ⟨_, rfl⟩
        obtain ⟨hud, hub⟩ := box0 HJ3.out.r0 HJ3.out.bl hu
        unfold par0Cs at hu
        rw [← hu]
        obtain ⟨⟨z0, z1, z2, z3, z4⟩, z5, z6, z7, z8, z9⟩ := hud.ten
        have HUB := Lib.hid hub
        clear hu hud hub
        go_wp2_with fail
        refine bodyPost_ret (v := .tuple #[.agg (parCs par0 ⟨none, 0, none, 0, none, 0, none, 0⟩), .int .i64 3]) (by simp [results, Tryd.results23, go_sem, z0, z1, z2, z3, z4, z5, z6, z7, z8, z9, parCs]) rfl ?_
        exact RReadPost.no HP3.out HUB.out
      have h4i : (va.length : Int) ≥ 4 := by omega
      obtain ⟨B, hB⟩ : ∃ B, ((va.length : Int) % 4 == 0) = B := ⟨_, rfl⟩
      have HB4 := Lib.hid hB
      have H4 := Lib.hid h4
      clear h4
      go_wp2_with fail
      go_loopw [14] (fun i wr => ∃ k : Nat, k ≤ N ∧ i = .int .i64 (4 * k : Nat) ∧ VJ w3 (w.heap.size + 1) s.p t va k wr) (fun i _ => 4 * N - (intOf i).toNat)
      case atStart => exact ⟨0, Nat.zero_le _, rfl, HQ.out⟩
      case round =>
        obtain ⟨k, hk, rfl, hvi⟩ := hrel
        have HVI := Lib.hid hvi
        obtain ⟨i, hi⟩ : ∃ i, i = 4 * k := ⟨_, rfl⟩
        rw [← hi]
        have HI4 := Lib.hid hi
        clear hi
        by_cases hlt : k < N
        · obtain ⟨hpg, A5, c5, hb, ho⟩ := hvi
          have hR := HV3.out.putG hpg HNE.out
          have hilt : i + 4 ≤ va.length := by have := HI4.out; have := HN.out; omega
          obtain ⟨b, o, hA, hcx⟩ := RdI.at_ hR.cell (by omega)
          subst hA
          have x0 := hcx i (by omega)
          have x1 := hcx (i + 1) (by omega)
          have x2 := hcx (i + 2) (by omega)
          have x3 := hcx (i + 3) (by omega)
          have b0 := HVy.out.nth i
          have b1 := HVy.out.nth (i + 1)
          have b2 := HVy.out.nth (i + 2)
          have b3 := HVy.out.nth (i + 3)
          have HBE : Hid (((nth va i * 256 + nth va (i + 1)) * 256 + nth va (i + 2)) * 256 + nth va (i + 3) = be4at va k) := by show _ = _; rw [HI4.out]; rfl
          obtain ⟨y0, hy0⟩ : ∃ y, y = nth va i := ⟨_, rfl⟩
          obtain ⟨y1, hy1⟩ : ∃ y, y = nth va (i + 1) := ⟨_, rfl⟩
          obtain ⟨y2, hy2⟩ : ∃ y, y = nth va (i + 2) := ⟨_, rfl⟩
          obtain ⟨y3, hy3⟩ : ∃ y, y = nth va (i + 3) := ⟨_, rfl⟩
          rw [← hy0] at x0 b0 HBE
          rw [← hy1] at x1 b1 HBE
          rw [← hy2] at x2 b2 HBE
          rw [← hy3] at x3 b3 HBE
          have HBl := Lib.hid hb
          have HO := Lib.hid ho
          have HPG := Lib.hid hpg
          have hil : (i : Int) + 4 ≤ (va.length : Int) := by omega
          have hi0 : (0 : Int) ≤ (i : Int) := by omega
          have hi5 : (i : Int) < 500 := by have := HVL.out; omega
          obtain ⟨y, hy⟩ : ∃ y, y = ((y0 * 256 + y1) * 256 + y2) * 256 + y3 := ⟨_, rfl⟩
          have HYY : Hid (y = be4at va k) := hy.trans HBE.out
          clear hcx hR hb ho hpg hy0 hy1 hy2 hy3 HBE
          go_wp2_with fail
          go_quiet (fail)
          rw [← hy]
          have hdq : Below wr.heap.size wr (wr.drewN nq) := below_drewN (Below.refl _ _) _
          have HPGq : Hid (PutG (w.heap.size + 1) w3 (wr.drewN nq)) := ⟨HPG.out.bl.trans (below_drewN (Below.refl _ _) _), HPG.out.off⟩
          have HBlq : Hid ((wr.drewN nq).heap[w.heap.size + 1]? = some (.cells (VCs s.p t (chK s.p va k) (.slice A5 (vsK va k).length c5)) 25 (0, 0))) := HBl.out
          have HOq := Lib.hid (HO.out.below hdq)
          have c9 : (wr.drewN nq).cell? ⟨w.heap.size + 1, 9, none⟩ = some (.slice A5 (vsK va k).length c5) := by rw [cell_of_row _ _ 9 _ _ _ HBlq.out]; rfl
          have c8 : (wr.drewN nq).cell? ⟨w.heap.size + 1, 8, none⟩ = some (.int .i64 (chK s.p va k)) := by rw [cell_of_row _ _ 8 _ _ _ HBlq.out]; rfl
          have f8 : (wr.drewN nq).frozen? ⟨w.heap.size + 1, 8, none⟩ = false := frozen_of_row _ _ 8 _ _ HBlq.out
          clear hdq HPG HBl HO HVI
          generalize wr.drewN nq = wq at HPGq HBlq HOq c9 c8 f8 ⊢
          have HPG := HPGq
          have HBl := HBlq
          have HO := HOq
          clear HPGq HBlq HOq
          have HYq := Lib.hid hy
          clear hy x0 x1 x2 x3 b0 b1 b2 b3
          by_cases hk1 : k = 0
          · subst hk1
            obtain rfl : i = 0 := HI4.out
            go_wp2_with fail
            go_roundw
            case rel =>
              refine ⟨1, by omega, by go_num, HPG.out.trans (PutG.cell 8 _), A5, c5, ?_, ?_⟩
              · rw [vsK_one]
                have e1 : chK s.p va 1 = y := by
                  rw [HYY.out]
                  exact versL_nth (by have := H4.out; omega)
                rw [e1]
                exact in7_set HBl.out _
              · rw [vsK_one]
                exact HO.out.setBelow (p := ⟨w.heap.size + 1, 8, none⟩) (show w.heap.size + 1 < w3.heap.size from HG3.out) _
            case measure => simp [intOf]; omega
          · have hk2 : ((i : Int) == 0) = false := by have := HI4.out; simp; omega
            have HO2 : Hid (OwnI (wq.alloc (.cells #[.int .i64 y] 3)) w3.heap.size .i64 (.slice A5 (vsK va k).length c5) (vsK va k)) := HO.out.below (below_new _)
            have HR1 : Hid (RdI (wq.alloc (.cells #[.int .i64 y] 3)) .i64 (some ⟨wq.heap.size, 0, none⟩) [y]) := RdI.one wq .i64 y _
            have hle : (vsK va k).length ≤ 1000000 := by have := vsK_len (xs := va) (k := k); have := HVL.out; have := HN.out; omega
            go_wp2_with (at_builtin; refine wp_app_int rfl _ _ rfl rfl rfl HO2.out HR1.out rfl (by have := HPG.out.bl.size; simp; omega) (by omega) ?_)
            intro v6 w6 hv6 hg6 hb6
            obtain ⟨A6, c6, rfl⟩ := hv6.slice
            have hbg : w6.heap[w.heap.size + 1]? = wq.heap[w.heap.size + 1]? := (hb6.block _ HG3.out).trans (Below.heap_alloc _ _ _ (lt_of_get HBl.out))
            have hb9 := hbg.trans HBl.out
            have f9 : w6.frozen? ⟨w.heap.size + 1, 9, none⟩ = false := frozen_of_row w6 _ 9 _ _ hb9
            have d9 : w6.cell? ⟨w.heap.size + 1, 9, none⟩ = some (.slice A5 (vsK va k).length c5) := by rw [cell_of_row w6 _ 9 _ _ _ hb9]; rfl
            have HV6 := Lib.hid hv6
            have HB6 := Lib.hid hb6
            have HB9 := Lib.hid hb9
            clear hv6 hg6 hb6 hbg hb9
            go_wp2_with fail
            go_roundw
            case rel =>
              have es : vsK va (k + 1) = vsK va k ++ [y] := by rw [HYY.out]; exact vsK_succ (by omega) (by rw [← HN.out]; exact hlt)
              have h6 : PutG (w.heap.size + 1) w3 w6 := ⟨HPG.out.bl.trans (((below_new _).mono (by have := lt_of_get HBl.out; omega)).trans (HB6.out.mono (by have := HG3.out; omega))), fun q hq hne => (HB6.out.block q hq).trans ((Below.heap_alloc _ _ q (by have := HPG.out.bl.size; omega)).trans (HPG.out.off q hq hne))⟩
              refine ⟨k + 1, by omega, by have := HI4.out; go_num, h6.trans (PutG.cell 9 _), A6, c6, ?_, ?_⟩
              · have e1 : chK s.p va (k + 1) = chK s.p va k := by simp [chK, hk1]
                rw [e1, es, List.length_append]
                exact in7_set HB9.out _
              · rw [es]
                exact HV6.out.setBelow (p := ⟨w.heap.size + 1, 9, none⟩) (show w.heap.size + 1 < w3.heap.size from HG3.out) _
            case measure => have := HI4.out; simp [intOf]; omega
        · obtain rfl : k = N := by omega
          have hil : ¬ ((i : Int) + 4 ≤ (va.length : Int)) := by have := HI4.out; have := HN.out; omega
          have hi5 : (i : Int) ≤ 500 := by have := HI4.out; have := HN.out; have := HVL.out; omega
          have hi0 : (0 : Int) ≤ (i : Int) := by omega
          clear hvi
          obtain ⟨hpg, A5, c5, hb, ho⟩ := HVI.out
          have hr0 : wr.heap[w.heap.size]? = some (.cells par0Cs 25 (0, 0)) := (hpg.off _ (lt_of_get HJ3.out.r0) (by omega)).trans HJ3.out.r0
          have hbl : Below w.heap.size w wr := HJ3.out.bl.trans (hpg.bl.mono (by omega))
          have HR0' := Lib.hid hr0
          have HBL := Lib.hid hbl
          have HPG := Lib.hid hpg
          have HBl := Lib.hid hb
          have HO := Lib.hid ho
          clear hr0 hbl hpg hb ho
          cases B with
          | false =>
            have HP3 : Hid (readP xs = (par0, 3)) := HNo.out (by rw [HST.out]; exact if_neg fun q => by have := HB4.out; simp at this; omega)
            go_wp2_with ((with_reducible show wpList _ _ _ (Oper.mk _ (Op.store 25 (.tmp 2) _) _ _ _ _ :: _) _ _); (refine wp_store_row rfl rfl _ _ _ rfl w.heap.size _ _ 25 rfl rfl rpar_size HR0'.out rfl (by simp [Value.oneCell']) ?_))
            obtain ⟨u, hu⟩ : ∃ u, u = World.setRow wr w.heap.size par0Cs := ⟨_, rfl⟩
            obtain ⟨hud, hub⟩ := box0 HR0'.out HBL.out hu
            unfold par0Cs at hu
            rw [← hu]
            obtain ⟨⟨z0, z1, z2, z3, z4⟩, z5, z6, z7, z8, z9⟩ := hud.ten
            have HUB := Lib.hid hub
            clear hu hud hub
            go_wp2_with fail
            refine bodyPost_ret (v := .tuple #[.agg (parCs par0 ⟨none, 0, none, 0, none, 0, none, 0⟩), .int .i64 3]) (by simp [results, Tryd.results23, go_sem, z0, z1, z2, z3, z4, z5, z6, z7, z8, z9, parCs]) rfl ?_
            exact RReadPost.no HP3.out HUB.out
          | true =>
            have hso : setP s.p 17 va = some { s.p with chosen := nth (versL va) 0, vs := (versL va).tail } := by rw [HST.out]; exact if_pos ⟨H4.out, by have := HB4.out; simp at this; omega⟩
            have HY := Lib.hid (HYes.out _ hso)
            have HN7 : Hid (RJ w (nextS s 17 { s.p with chosen := nth (versL va) 0, vs := (versL va).tail }) { t with vA := A5, vc := c5 } wr) := by
              have e1 : chK s.p va k = nth (versL va) 0 := if_neg (by have := HN.out; have := H4.out; omega)
              have e2 : vsK va k = (versL va).tail := by rw [HN.out]; exact vsK_all va
              have hb := HBl.out
              have ho := HO.out
              rw [e1, e2] at hb
              rw [e2] at ho
              have hq := HJ3.out.h.putR (by omega) HPG.out HJ3.out.d
              exact ⟨hb, ⟨hq.goal, hq.own, hq.retry, ho.rds⟩, fun q => by simp [nextS] at q, HY.out.2.1, HBL.out, HR0'.out⟩
            have HR7 := Lib.hid (HR3.out.putG HPG.out (HR3.out.offR (by omega) HJ3.out.d))
            clear hso
            go_wp2_with fail
            go_roundw
            case rel => exact ⟨f', nextS s 17 { s.p with chosen := nth (versL va) 0, vs := (versL va).tail }, { t with vA := A5, vc := c5 }, V2, d2, re, rfl, rfl, by rw [HC.out]; go_num, by have := HF'.out; have := HF.out; have := HY.out.2.2.1; omega, HRy.out, by have := HY.out.2.2.1; have := HRl.out; omega, HY.out.1, HR7.out, HY.out.2.2.2, HN7.out⟩
            case measure => exact HY.out.2.2.1
end Go.Proofs.YtbfgoojpbhlboaaDoor
