/- The program's layer 7: the reading of params. No condition. -/
import Derived.Test.YtbfgoojpbhlboaaDoorParVers
import Derived.Test.YtbfgoojpbhlboaaDoorTake
import Derived.Test.YtbfgoojpbhlboaaDoorParRight
import Derived.Test.YtbfgoojpbhlboaaDoorTurn
set_option linter.unusedVariables false
set_option linter.unusedSimpArgs false
namespace Go.Proofs.YtbfgoojpbhlboaaDoor
open Go Go.RowKit

theorem Rds.offMap {B : Nat} {w : World} {k : IntKind} {A : Option Addr} {n c : Nat} {xs : List Int} (h : Rds B w k A n c xs) {mb : Nat} {es : Array MapEntry} {clock : Nat} (hm : w.heap[mb]? = some (.map es clock)) : ∀ a, 0 < n → A = some a → a.block ≠ mb := by
  intro a p e q
  obtain ⟨b, o, hA, hc⟩ := RdI.at_ h.cell (by have := h.len; omega)
  rw [hA] at e
  cases e
  simp only at q
  subst q
  have := hc 0 (by have := h.len; omega)
  simp [World.cell?, hm] at this
/-- Where a reading stands. -/
structure RI (w : World) (g mb : Nat) (s : RS) (t : ParS) (W : World) : Prop where
  px : PX W g s.p t
  vs : s.c = false → s.p.vs = [] ∧ t.vA = none ∧ t.vc = 0
  mp : ∃ es clock, W.heap[mb]? = some (.map es clock) ∧ IntKeys es ∧ (∀ e ∈ es.toList, e.val = .bool true) ∧ (∀ e ∈ es.toList, ∀ x : Int, e.key = .int .i64 x → x ≤ s.last) ∧
    (s.a = true ↔ ∃ e ∈ es.toList, e.key = .int .i64 1) ∧ (s.b = true ↔ ∃ e ∈ es.toList, e.key = .int .i64 4) ∧ (s.c = true ↔ ∃ e ∈ es.toList, e.key = .int .i64 17)
  bl : Below w.heap.size w W
  r0 : W.heap[w.heap.size]? = some (.cells par0Cs 27 (0, 0))
theorem RI.below {w : World} {g mb : Nat} {s : RS} {t : ParS} {W W' : World} (h : RI w g mb s t W) (hb : Below W.heap.size W W') : RI w g mb s t W' := by
  obtain ⟨es, cl, h1, h2⟩ := h.mp
  exact ⟨h.px.below hb, h.vs, ⟨es, cl, (hb.block _ (lt_of_get h1)).trans h1, h2⟩, below_next h.bl h.bl.size hb, (hb.block _ (lt_of_get h.r0)).trans h.r0⟩
/-- What one of the methods does. -/
theorem setF_any {n : Int} (hn : fieldF n ≠ .nilFunc) : ∃ F, fieldF n = .func (.func F) #[] #[] ∧ (∀ args w, (callFunc F args).run Tryd.prog w = .ok (.enter F args) w) ∧
    ∀ {g : Nat} {p : Par} {s : ParS} {A : Option Addr} {c : Nat} {v : List Int} (w : World), PX w g p s → Rds 0 w .u8 A v.length c v → Byt v → v.length ≤ 1000000 → (n = 17 → p.vs = [] ∧ s.vA = none ∧ s.vc = 0) →
      Calls Tryd.prog F #[.pointer (some ⟨g, 0, none⟩), .slice A v.length c] w (SetPost g p s n v w) := by
  by_cases h0 : n = 0
  · subst h0
    exact ⟨_, rfl, enters_of Tryd.func111 (by kernel_rfl) rfl, fun w h hv hy hl hz => set0_any w h hv⟩
  by_cases h1 : n = 1
  · subst h1
    exact ⟨_, rfl, enters_of Tryd.func112 (by kernel_rfl) rfl, fun w h hv hy hl hz => set1_any w h hv hy⟩
  by_cases h4 : n = 4
  · subst h4
    exact ⟨_, rfl, enters_of Tryd.func113 (by kernel_rfl) rfl, fun w h hv hy hl hz => set4_any w h hv hy⟩
  by_cases h15 : n = 15
  · subst h15
    exact ⟨_, rfl, enters_of Tryd.func114 (by kernel_rfl) rfl, fun w h hv hy hl hz => set15_any w h hv⟩
  by_cases h16 : n = 16
  · subst h16
    exact ⟨_, rfl, enters_of Tryd.func115 (by kernel_rfl) rfl, fun w h hv hy hl hz => set16_any w h hv⟩
  by_cases h17 : n = 17
  · subst h17
    exact ⟨_, rfl, enters_of Tryd.func116 (by kernel_rfl) rfl, fun w h hv hy hl hz => set17_any w h hv hy hl (hz rfl).1 (hz rfl).2.1 (hz rfl).2.2⟩
  · refine absurd ?_ hn
    unfold fieldF
    rw [if_neg h0, if_neg h1, if_neg h4, if_neg h15, if_neg h16, if_neg h17]
theorem setP_none {p : Par} {n : Int} {v : List Int} (h : fieldF n = .nilFunc) : setP p n v = none := by
  unfold fieldF at h
  unfold setP
  split at h
  · cases h
  split at h
  · cases h
  split at h
  · cases h
  split at h
  · cases h
  split at h
  · cases h
  split at h
  · cases h
  rename_i h0 h1 h4 h15 h16 h17
  rw [if_neg h0, if_neg h1, if_neg h4, if_neg h15, if_neg h16, if_neg h17]
/-- A field has been read: where the reading stands then. -/
theorem RI.step {w : World} {g mb : Nat} {s : RS} {t : ParS} {W W3 : World} (h : RI w g mb s t W) (hp : PutG g W W3) (hg : w.heap.size < g) (hgm : g < mb) {n : Int} (hn : s.last < n) {p' : Par} {t' : ParS} (hx : PX W3 g p' t') (hk : n ≠ 17 → p'.vs = s.p.vs ∧ t'.vA = t.vA ∧ t'.vc = t.vc) :
    ∃ es clock, W3.heap[mb]? = some (.map es clock) ∧ IntKeys es ∧ (∀ e ∈ es.toList, e.key ≠ .int .i64 n) ∧ RI w g mb (nextS s n p') t' (ChangeMaps.setBlock W3 mb (.map (es.push ⟨.int .i64 n, .bool true, clock⟩) (clock + 1))) := by
  obtain ⟨es, cl, h1, h2, h3, h4, h5, h6, h7⟩ := h.mp
  have hm : W3.heap[mb]? = some (.map es cl) := (hp.off mb (lt_of_get h1) (by omega)).trans h1
  have hml := lt_of_get hm
  have hpm : PutG mb W3 (ChangeMaps.setBlock W3 mb (.map (es.push ⟨.int .i64 n, .bool true, cl⟩) (cl + 1))) :=
    ⟨below_setBlock (Below.refl _ _) (by omega) _, fun k _ hne => setBlock_off hne⟩
  have key : ∀ m : Int, (∃ e ∈ (es.push (⟨.int .i64 n, .bool true, cl⟩ : MapEntry)).toList, e.key = .int .i64 m) ↔ ((∃ e ∈ es.toList, e.key = .int .i64 m) ∨ n = m) := by
    intro m
    simp only [Array.toList_push, List.mem_append, List.mem_singleton]
    constructor
    · rintro ⟨e, he | rfl, hk⟩
      · exact .inl ⟨e, he, hk⟩
      · cases hk; exact .inr rfl
    · rintro (⟨e, he, hk⟩ | rfl)
      · exact ⟨e, .inl he, hk⟩
      · exact ⟨_, .inr rfl, rfl⟩
  refine ⟨es, cl, hm, h2, fun e he hk' => by have := h4 e he n hk'; omega, ⟨⟨?_, ?_⟩, ?_, ⟨_, _, setBlock_at hml, h2.push _ _ _, ?_, ?_, ?_, ?_, ?_⟩, ?_, ?_⟩⟩
  · exact (setBlock_off (by omega)).trans hx.b
  · exact ⟨hx.h.goal.putG hpm (hx.h.goal.offMap hm), hx.h.own.putG hpm (hx.h.own.offMap hm), hx.h.retry.putG hpm (hx.h.retry.offMap hm), hx.h.vs.putG hpm (hx.h.vs.offMap hm)⟩
  · intro hc
    simp only [nextS, Bool.or_eq_false_iff, decide_eq_false_iff_not] at hc
    obtain ⟨e1, e2, e3⟩ := h.vs hc.1
    obtain ⟨k1, k2, k3⟩ := hk hc.2
    exact ⟨k1.trans e1, k2.trans e2, k3.trans e3⟩
  · intro e he
    simp only [Array.toList_push, List.mem_append, List.mem_singleton] at he
    rcases he with he | rfl
    · exact h3 e he
    · rfl
  · intro e he x hx'
    simp only [Array.toList_push, List.mem_append, List.mem_singleton] at he
    show x ≤ n
    rcases he with he | rfl
    · have := h4 e he x hx'; omega
    · cases hx'; exact Int.le_refl _
  · rw [key, ← h5]; simp [nextS]
  · rw [key, ← h6]; simp [nextS]
  · rw [key, ← h7]; simp [nextS]
  · exact (h.bl.trans (hp.bl.mono (by omega))).trans (hpm.bl.mono (by omega))
  · exact (setBlock_off (by omega)).trans ((hp.off _ (lt_of_get h.r0) (by omega)).trans h.r0)
theorem parseS_step {f : Nat} {s : RS} {rs : List Int} (h : rs.length ≤ f) (hne : rs ≠ []) : ∃ f', f = f' + 1 ∧ parseS f s rs = (stepS s rs).bind fun y => parseS f' y.1 y.2 := by
  cases rs with
  | nil => exact absurd rfl hne
  | cons x r =>
    cases f with
    | zero => simp at h
    | succ f' => exact ⟨f', rfl, rfl⟩
theorem parseS_nil (f : Nat) (s : RS) : parseS f s [] = some s := by cases f <;> rfl
def lenSl : Value → Nat
  | .slice _ n _ => n
  | _ => 0
/-- What a look-up into what has been seen answers. -/
theorem look_seen {w : World} {mb : Nat} {es : Array MapEntry} {clock : Nat} (hm : w.heap[mb]? = some (.map es clock)) (hk : IntKeys es) (ht : ∀ e ∈ es.toList, e.val = .bool true) {b : Bool} {n : Int} (hb : b = true ↔ ∃ e ∈ es.toList, e.key = .int .i64 n) :
    (Instr.lookup 102 (.map (some mb)) (.int .i64 n) false).run Tryd.prog w = .ok (.bool b) w := by
  cases b with
  | true => exact run_look_some Tryd.underlying102 Tryd.underlying3 hm hk (fun e he _ => ht e he) (hb.1 rfl)
  | false =>
    refine run_look_none Tryd.underlying102 Tryd.underlying3 (by kernel_rfl) hm hk fun e he hke => ?_
    have := hb.2 ⟨e, he, hke⟩
    cases this
theorem neq_nil7 (w : World) : (binOp BinOp.neq 107 .nilFunc .nilFunc).run Tryd.prog w = .ok (.bool false) w := by kernel_rfl
theorem neq_func7 (F : Nat) (w : World) : (binOp BinOp.neq 107 (.func (.func F) #[] #[]) .nilFunc).run Tryd.prog w = .ok (.bool true) w := by kernel_rfl
theorem setP_vs {p p' : Par} {n : Int} {v : List Int} (h : setP p n v = some p') (hn : n ≠ 17) : p'.vs = p.vs := by
  unfold setP at h
  split at h
  · cases h; rfl
  split at h
  · obtain ⟨x, -, rfl⟩ := Option.map_eq_some_iff.1 h; rfl
  split at h
  · obtain ⟨x, -, rfl⟩ := Option.map_eq_some_iff.1 h; rfl
  split at h
  · cases h; rfl
  split at h
  · cases h; rfl
  cases h
theorem setP_small {p p' : Par} {n : Int} {v : List Int} (h : setP p n v = some p') (hv : v.length ≤ 4000) (h17 : n = 17 → p.vs = []) (hp : p.vs.length ≤ 1000) : p'.vs.length ≤ 1000 := by
  by_cases hn : n = 17
  · subst hn
    have e := h17 rfl
    simp [setP, e] at h
    obtain ⟨-, rfl⟩ := h
    simp [versL_len]
    omega
  · rw [setP_vs h hn]; exact hp
theorem takeV_len (b : List Int) : (takeV b).1.length ≤ b.length := by
  unfold takeV
  split
  · simp
  split
  · simp
  · simp; omega
theorem RI.free {w : World} {g mb : Nat} {s : RS} {t : ParS} {W : World} (h : RI w g mb s t W) (hn : s.last < 17) : s.c = false := by
  obtain ⟨es, cl, h1, h2, h3, h4, h5, h6, h7⟩ := h.mp
  cases hc : s.c with
  | false => rfl
  | true =>
    obtain ⟨e, he, hk⟩ := h7.1 hc
    have := h4 e he 17 hk
    omega
/-- What a reading answers. -/
def readR (xs : List Int) : Option Par := (parseS xs.length rs0 xs).bind fun s => if endS s then some s.p else none
def ReadRPost (xs : List Int) (w : World) (e : Ending) (w' : World) : Prop :=
  Below w.heap.size w w' ∧ match readR xs with | some p => ∃ s', e = .returned (.agg (parCs p s')) ∧ ParAt 0 w' p s' | none => e = wrongE
set_option maxHeartbeats 12800000 in
set_option maxRecDepth 100000 in
theorem readR_any {A : Option Addr} {c : Nat} {xs : List Int} (w : World) (h : Rds w.heap.size w .u8 A xs.length c xs) (hb : Byt xs) (hl : xs.length ≤ 500) :
    Calls Tryd.prog 54 #[.slice A xs.length c] w (ReadRPost xs w) := by
  obtain ⟨R, hR⟩ : ∃ R, R = readR xs := ⟨_, rfl⟩
  unfold ReadRPost
  rw [← hR]
  have HR := Lib.hid hR
  have HL := Lib.hid hl
  obtain ⟨W, hW⟩ : ∃ W, W = ((w.alloc (.cells par0Cs 27)).alloc (.cells par0Cs 27)).alloc (.map #[] 0) := ⟨_, rfl⟩
  have hmm := @run_makeMap Tryd.prog
  clear hR hl
  go_enter Tryd.func54, Tryd.ntmps54
  go_wp2_with fail
  unfold par0Cs at hW
  rw [← hW]
  have HI0 : Hid (RI w (w.heap.size + 1) (w.heap.size + 1 + 1) rs0 ⟨none, 0, none, 0, none, 0, none, 0⟩ W) := by
    have h0 : W.heap[w.heap.size]? = some (.cells par0Cs 27 (0, 0)) := by rw [hW]; exact (Below.heap_alloc _ _ _ (by simp; omega)).trans (heap_alloc2_old w _ _)
    have h1 : W.heap[w.heap.size + 1]? = some (.cells par0Cs 27 (0, 0)) := by rw [hW]; exact (Below.heap_alloc _ _ _ (by simp)).trans (heap_alloc2_new w _ _)
    have h2 : W.heap[w.heap.size + 1 + 1]? = some (.map #[] 0) := by
      have := heap_alloc_new ((w.alloc (.cells par0Cs 27)).alloc (.cells par0Cs 27)) (.map #[] 0)
      rw [World.size_alloc, World.size_alloc] at this
      rw [hW]; exact this
    refine ⟨⟨h1, ⟨Rds.nil _ _ _, Rds.nil _ _ _, Rds.nil _ _ _, Rds.nil _ _ _⟩⟩, fun _ => ⟨rfl, rfl, rfl⟩, ⟨#[], 0, h2, IntKeys.nil, by simp, by simp, by simp [rs0], by simp [rs0], by simp [rs0]⟩, ?_, h0⟩
    rw [hW]
    exact ((below_new _).alloc (by simp) _).alloc (by simp; omega) _
  have HRd : Hid (Rds w.heap.size W .u8 A xs.length c xs) := h.below HI0.out.bl
  have HBy := Lib.hid hb
  clear hW hmm h hb
  go_loopw [0, 4] (fun b l wr => ∃ (f : Nat) (s : RS) (t : ParS) (A' : Option Addr) (c' : Nat) (rs : List Int), b = .slice A' rs.length c' ∧ l = .int .i64 s.last ∧ rs.length ≤ f ∧ Byt rs ∧ rs.length ≤ xs.length ∧ (R = (parseS f s rs).bind fun s => if endS s then some s.p else none) ∧ Rds w.heap.size wr .u8 A' rs.length c' rs ∧ s.p.vs.length ≤ 1000 ∧ RI w (w.heap.size + 1) (w.heap.size + 1 + 1) s t wr) (fun b _ _ => lenSl b)
  case atStart => exact ⟨_, rs0, _, A, c, xs, rfl, rfl, Nat.le_refl _, HBy.out, Nat.le_refl _, HR.out, HRd.out, Nat.zero_le _, HI0.out⟩
  case round =>
    obtain ⟨f, s, t, A', c', rs, rfl, rfl, hf, hby, hrl, hpar, hrd, hvl, hI⟩ := hrel
    have HI := Lib.hid hI
    have HVl := Lib.hid hvl
    have HPa := Lib.hid hpar
    have HF := Lib.hid hf
    have HBr := Lib.hid hby
    have HRl := Lib.hid hrl
    have HRd' := Lib.hid hrd
    have hcap := hrd.cap
    have hmax := hrd.max
    clear hI hpar hf hby hrl hrd hvl
    by_cases hne : rs = []
    · subst hne
      have hRe : R = if endS s then some s.p else none := by rw [HPa.out, parseS_nil]; rfl
      obtain ⟨es, cl, hm, hks, hval, hle, ha, hb2, hc2⟩ := HI.out.mp
      have l1 := look_seen hm hks hval ha
      have l4 := look_seen hm hks hval hb2
      have l17 := look_seen hm hks hval hc2
      have rr := right_any s.p t wr HI.out.px.h HVl.out
      obtain ⟨⟨a0, a1, a2, a3, a4⟩, a5, a6, a7, a8, a9⟩ := HI.out.px.b.ten
      obtain ⟨ba, hba⟩ : ∃ b, b = s.a := ⟨_, rfl⟩
      obtain ⟨bb, hbb⟩ : ∃ b, b = s.b := ⟨_, rfl⟩
      obtain ⟨bc, hbc⟩ : ∃ b, b = s.c := ⟨_, rfl⟩
      have HRe := Lib.hid hRe
      have HA := Lib.hid hba
      have HB := Lib.hid hbb
      have HC := Lib.hid hbc
      rw [← hba] at l1
      rw [← hbb] at l4
      rw [← hbc] at l17
      clear hm hks hval hle ha hb2 hc2 hba hbb hbc hRe
      unfold parCs at rr
      cases ba with
      | false =>
        have hRn : R = none := by rw [HRe.out]; exact if_neg fun q => by have := HA.out; rw [q.1] at this; cases this
        subst hRn
        go_wp2_with fail
        refine (need_no _).mono ?_
        rintro e w2 ⟨rfl, hw⟩
        obtain rfl : w2 = wr := hw
        unfold wrongE
        go_wp2_with fail
        exact ⟨rfl, HI.out.bl, rfl⟩
      | true =>
      cases bb with
      | false =>
        have hRn : R = none := by rw [HRe.out]; exact if_neg fun q => by have := HB.out; rw [q.2.1] at this; cases this
        subst hRn
        go_wp2_with fail
        refine (need_no _).mono ?_
        rintro e w2 ⟨rfl, hw⟩
        obtain rfl : w2 = wr := hw
        unfold wrongE
        go_wp2_with fail
        exact ⟨rfl, HI.out.bl, rfl⟩
      | true =>
      cases bc with
      | false =>
        have hRn : R = none := by rw [HRe.out]; exact if_neg fun q => by have := HC.out; rw [q.2.2.1] at this; cases this
        subst hRn
        go_wp2_with fail
        refine (need_no _).mono ?_
        rintro e w2 ⟨rfl, hw⟩
        obtain rfl : w2 = wr := hw
        unfold wrongE
        go_wp2_with fail
        exact ⟨rfl, HI.out.bl, rfl⟩
      | true =>
      go_wp2_with fail
      refine rr.mono ?_
      clear rr
      rintro e w2 ⟨rfl, hb2⟩
      have HI2 := Lib.hid (HI.out.below hb2)
      clear hb2 a0 a1 a2 a3 a4 a5 a6 a7 a8 a9 l1 l4 l17
      by_cases hrp : rightP s.p
      rotate_left
      · have hRn : R = none := by rw [HRe.out]; exact if_neg fun q => hrp q.2.2.2
        subst hRn
        rw [decide_eq_false hrp]
        clear hrp
        go_wp2_with fail
        refine (need_no _).mono ?_
        rintro e w3 ⟨rfl, hw⟩
        obtain rfl : w3 = w2 := hw
        unfold wrongE
        go_wp2_with fail
        exact ⟨rfl, HI2.out.bl, rfl⟩
      have hRs : R = some s.p := by rw [HRe.out]; exact if_pos ⟨HA.out.symm, HB.out.symm, HC.out.symm, hrp⟩
      subst hRs
      rw [decide_eq_true hrp]
      clear hrp
      go_wp2_with fail
      refine (need_yes _).mono ?_
      rintro e w3 ⟨rfl, hw⟩
      obtain rfl : w3 = w2 := hw
      obtain ⟨⟨a0, a1, a2, a3, a4⟩, a5, a6, a7, a8, a9⟩ := HI2.out.px.b.ten
      go_wp2_with ((with_reducible show wpList _ _ _ (Oper.mk _ (Op.store 27 (.tmp 2) _) _ _ _ _ :: _) _ _); (refine wp_store_row rfl rfl _ _ _ rfl w.heap.size _ _ 27 rfl rfl par_size HI2.out.r0 rfl (by simp [Value.oneCell']) ?_))
      obtain ⟨u, hu⟩ : ∃ u, u = World.setRow w3 w.heap.size (parCs s.p t) := ⟨_, rfl⟩
      have hux : ParB u w.heap.size s.p t := by show u.heap[w.heap.size]? = _; rw [hu]; exact setRow_heap _ w.heap.size _ _ _ _ HI2.out.r0
      have hup : PutG w.heap.size w3 u := by rw [hu]; exact ⟨below_setRow (Below.refl _ _) (Nat.le_refl _) _, fun k _ hne => setRow_other _ _ _ _ hne⟩
      have HAt : Hid (ParAt 0 u s.p t) := HI2.out.px.h.putG hup HI2.out.r0
      have HBu : Hid (Below w.heap.size w u) := HI2.out.bl.trans hup.bl
      unfold parCs at hu
      rw [← hu]
      obtain ⟨⟨z0, z1, z2, z3, z4⟩, z5, z6, z7, z8, z9⟩ := hux.ten
      clear hu hux hup a0 a1 a2 a3 a4 a5 a6 a7 a8 a9
      go_wp2_with fail
      refine bodyPost_ret (v := .agg (parCs s.p t)) (by simp [results, Tryd.results54, go_sem, z0, z1, z2, z3, z4, z5, z6, z7, z8, z9, parCs]) rfl ?_
      exact ⟨HBu.out, t, rfl, HAt.out⟩
    · have hpos : 0 < rs.length := List.length_pos_iff.2 hne
      have hpi : (rs.length : Int) > 0 := by omega
      have HNe := Lib.hid hne
      clear hne
      have key := vread_any A' rs.length c' rs wr HRd'.out HBr.out
      obtain ⟨n, sz, er, hrv⟩ : ∃ n sz er, readV rs = (n, sz, er) := ⟨_, _, _, rfl⟩
      have HRv := Lib.hid hrv
      unfold ReadPost at key
      rw [hrv] at key
      simp only at key
      clear hrv
      go_wp2_with fail
      refine key.mono ?_
      clear key
      rintro e w1 ⟨rfl, hw1⟩
      obtain rfl : w1 = wr := hw1.symm
      have HSt : Hid (¬ (er = 0 ∧ s.last < n) → R = none) := fun hh => by
        obtain ⟨f', -, e2⟩ := parseS_step (s := s) HF.out HNe.out
        have e3 : stepS s rs = none := by unfold stepS; rw [HRv.out]; exact if_neg hh
        rw [HPa.out, e2, e3]; rfl
      by_cases he : er = 0
      rotate_left
      · have hRn := HSt.out fun q => he q.1
        subst hRn
        go_wp2_with fail
        refine (need_no _).mono ?_
        rintro e w2 ⟨rfl, hw⟩
        obtain rfl : w2 = w1 := hw
        unfold wrongE
        go_wp2_with fail
        exact ⟨rfl, HI.out.bl, rfl⟩
      subst he
      by_cases hln : s.last < n
      rotate_left
      · have hRn := HSt.out fun q => hln q.2
        subst hRn
        have hln' : ¬ (n > s.last) := by omega
        go_wp2_with fail
        rw [show decide (s.last < n) = false from decide_eq_false (by omega)]
        refine (need_no _).mono ?_
        rintro e w2 ⟨rfl, hw⟩
        obtain rfl : w2 = w1 := hw
        unfold wrongE
        go_wp2_with fail
        exact ⟨rfl, HI.out.bl, rfl⟩
      go_wp2_with fail
      refine (need_yes _).mono ?_
      rintro e w2 ⟨rfl, hw⟩
      obtain rfl : w2 = w1 := hw
      have hsz : sz ≤ rs.length := by have := (rd_ok (xs := rs) (by rw [HRv.out])).1; rw [HRv.out] at this; exact this
      go_wp2_with ((with_reducible show wpList _ _ _ (Oper.mk _ (Op.slice _ _ _ _ _) _ _ _ _ :: _) _ _); refine wp_cut rfl _ _ rfl rfl rfl sz rfl hsz HRd'.out ?_; intro hr2; have HR2 := Lib.hid hr2; clear hr2)
      have HLn := Lib.hid hln
      clear hln hsz
      have key := vtake_any _ _ _ _ w2 HR2.out (byt_drop HBr.out sz) (by have := HRl.out; have := HL.out; omega)
      obtain ⟨va, re, er, htv⟩ : ∃ va re er, takeV (rs.drop sz) = (va, re, er) := ⟨_, _, _, rfl⟩
      have HTv := Lib.hid htv
      have hby2 := takeV_byt (byt_drop HBr.out sz)
      unfold TakePost at key
      rw [htv] at key hby2
      simp only at key hby2
      have HVy := Lib.hid hby2.1
      have HRy := Lib.hid hby2.2
      clear htv hby2
      refine key.mono ?_
      clear key
      rintro e w3 ⟨v1, v2, rfl, ho1, ho2, hb3⟩
      obtain ⟨V1, d1, rfl⟩ := ho1.slice
      obtain ⟨V2, d2, rfl⟩ := ho2.slice
      have HI3 := Lib.hid (HI.out.below hb3)
      have HV3 : Hid (Rds 0 w3 .u8 V1 va.length d1 va) := ho1.rds
      have HR3 : Hid (Rds 0 w3 .u8 V2 re.length d2 re) := ho2.rds
      clear ho1 ho2 hb3
      have HSt2 : Hid (¬ (er = 0) → R = none) := fun hh => by
        obtain ⟨f', -, e2⟩ := parseS_step (s := s) HF.out HNe.out
        have e3 : stepS s rs = none := by
          unfold stepS; rw [HRv.out]
          simp only
          rw [if_pos ⟨by first | rfl | trivial, HLn.out⟩, HTv.out]
          exact if_neg hh
        rw [HPa.out, e2, e3]; rfl
      by_cases he : er = 0
      rotate_left
      · have hRn := HSt2.out he
        subst hRn
        go_wp2_with fail
        rw [show (er == 0) = false from by simp [he]]
        refine (need_no _).mono ?_
        rintro e w4 ⟨rfl, hw⟩
        obtain rfl : w4 = w3 := hw
        unfold wrongE
        go_wp2_with fail
        exact ⟨rfl, HI3.out.bl, rfl⟩
      subst he
      go_wp2_with fail
      refine (need_yes _).mono ?_
      rintro e w4 ⟨rfl, hw⟩
      obtain rfl : w4 = w3 := hw
      go_wp2_with fail
      refine (fields_any _).mono ?_
      rintro e w5 ⟨rfl, hm5, hb5⟩
      have hlk := look_fields hm5 n
      have HI5 := Lib.hid (HI3.out.below hb5)
      have HV5 := Lib.hid (HV3.out.below hb5)
      have HR5 := Lib.hid (HR3.out.below hb5)
      clear hm5 hb5
      have HE3 : Hid (stepS s rs = (setP s.p n va).map fun p => (nextS s n p, re)) := by
        show _ = _
        unfold stepS; rw [HRv.out]
        simp only
        rw [if_pos ⟨by first | rfl | trivial, HLn.out⟩, HTv.out]
        rfl
      have HVal : Hid (va.length ≤ rs.length) := by have := takeV_len (rs.drop sz); rw [HTv.out] at this; simp at this; show _ ≤ _; omega
      have HSt3 : Hid (∀ f', f = f' + 1 → R = ((setP s.p n va).map fun p => (nextS s n p, re)).bind fun y => (parseS f' y.1 y.2).bind fun s => if endS s then some s.p else none) := fun f' hf' => by
        obtain ⟨f'', e1, e2⟩ := parseS_step (s := s) HF.out HNe.out
        obtain rfl : f'' = f' := by omega
        have e3 : stepS s rs = (setP s.p n va).map fun p => (nextS s n p, re) := by
          unfold stepS; rw [HRv.out]
          simp only
          rw [if_pos ⟨by first | rfl | trivial, HLn.out⟩, HTv.out]
          rfl
        rw [HPa.out, e2, e3]
        cases setP s.p n va <;> rfl
      obtain ⟨f', hf', -⟩ := parseS_step (s := s) HF.out HNe.out
      have HSt4 := Lib.hid (HSt3.out f' hf')
      by_cases hF : fieldF n = .nilFunc
      · rw [hF] at hlk
        have hRn : R = none := by rw [HSt4.out, setP_none hF]; rfl
        subst hRn
        have q1 := neq_nil7 w5
        go_wp2_with fail
        refine (need_no _).mono ?_
        rintro e w6 ⟨rfl, hw⟩
        obtain rfl : w6 = w5 := hw
        unfold wrongE
        go_wp2_with fail
        exact ⟨rfl, HI5.out.bl, rfl⟩
      obtain ⟨F, hFF, hent, hcall⟩ := setF_any hF
      rw [hFF] at hlk
      have key := hcall w5 HI5.out.px HV5.out HVy.out (by have := HVal.out; have := HRl.out; have := HL.out; omega) (fun h17 => HI5.out.vs (HI5.out.free (by have := HLn.out; omega)))
      clear hcall
      have q1 := neq_func7 F w5
      go_wp2_with fail
      refine (need_yes _).mono ?_
      rintro e w6 ⟨rfl, hw⟩
      obtain rfl : w6 = w5 := hw
      go_wp2_with fail
      refine key.mono ?_
      clear key hlk hent
      rintro e w7 ⟨hp7, hm7⟩
      cases hsp : setP s.p n va with
      | none =>
        rw [hsp] at hm7 HSt4
        have hm7' : e = wrongE := hm7
        subst hm7'
        have hRn : R = none := by rw [HSt4.out]; rfl
        subst hRn
        have HB7 := Lib.hid (HI5.out.bl.trans (hp7.bl.mono (by omega)))
        clear hp7 hm7 hsp
        unfold wrongE
        go_wp2_with fail
        exact ⟨rfl, HB7.out, rfl⟩
      | some p' =>
        rw [hsp] at hm7 HSt4
        obtain ⟨he, t', hx', hk'⟩ := hm7
        subst he
        obtain ⟨es, cl, hm, hks, hno, hnext⟩ := HI5.out.step hp7 (by omega) (by omega) HLn.out hx' (fun h17 => ⟨setP_vs hsp h17, hk' h17⟩)
        have q2 := run_put_int Tryd.underlying102 Tryd.underlying3 hm hks hno (.bool true)
        have HN7 := Lib.hid hnext
        have HR7 : Hid (Rds 0 (ChangeMaps.setBlock w7 (w.heap.size + 1 + 1) (.map (es.push ⟨.int .i64 n, .bool true, cl⟩) (cl + 1))) .u8 V2 re.length d2 re) := by
          have h1 := HR5.out.putG hp7 (HR5.out.offP (Nat.zero_le _) HI5.out.px.b)
          have hpm : PutG (w.heap.size + 1 + 1) w7 (ChangeMaps.setBlock w7 (w.heap.size + 1 + 1) (.map (es.push ⟨.int .i64 n, .bool true, cl⟩) (cl + 1))) :=
            ⟨below_setBlock (Below.refl _ _) (Nat.le_of_lt (lt_of_get hm)) _, fun k _ hne => setBlock_off hne⟩
          exact h1.putG hpm (h1.offMap hm)
        have HSh : Hid (re.length < rs.length) := stepS_short HBr.out (by rw [HE3.out, hsp]; rfl)
        have HSm : Hid (p'.vs.length ≤ 1000) := setP_small hsp (by have := HVal.out; have := HRl.out; have := HL.out; omega) (fun h17 => (HI5.out.vs (HI5.out.free (by have := HLn.out; omega))).1) HVl.out
        have HF' := Lib.hid hf'
        clear hp7 hx' hk' hm hks hno hnext hsp hf'
        go_wp2_with fail
        go_roundw
        case rel => exact ⟨f', nextS s n p', t', V2, d2, re, rfl, rfl, by have := HF'.out; have := HF.out; have := HSh.out; omega, HRy.out, by have := HSh.out; have := HRl.out; omega, HSt4.out, HR7.out.mono (Nat.zero_le _), HSm.out, HN7.out⟩
        case measure => exact HSh.out
end Go.Proofs.YtbfgoojpbhlboaaDoor
