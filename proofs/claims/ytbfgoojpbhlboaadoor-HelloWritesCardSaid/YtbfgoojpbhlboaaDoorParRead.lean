/- The program's layer 7: Read, which recovers. No condition. -/
import Derived.Tactics
import Derived.Tactics2
import Derived.Defers
import Derived.Recover
import Derived.Laws.Pointers
import Derived.Test.YtbfgoojpbhlboaaDoorParLoop
set_option linter.unusedVariables false
set_option linter.unusedSimpArgs false
namespace Go.Proofs.YtbfgoojpbhlboaaDoor
open Go Go.RowKit

set_option maxHeartbeats 3200000 in
set_option maxRecDepth 100000 in
theorem catch7_idle (p q : Addr) (w : World) :
    CallsD Tryd.prog 53 #[.pointer (some p), .pointer (some q)] .returning w fun e u' w' => e = .returned (.tuple #[]) ∧ u' = .returning ∧ w' = w := by
  refine callsD_of_wpS Tryd.func53 rfl fun c₀ cs hu => ?_
  apply wpS_seq
  apply wpS_region
  simp [wpOpsS, go_sem, recoverD, hu, Tryd.ntmps53, Exit.thenS]
  apply wpS_seq
  apply wpS_region
  simp [wpOpsS, go_sem, recoverD, hu, Tryd.ntmps53, Exit.thenS]
  refine wpS_cond (t := false) (by simp [Act.eval, Array.replicate]) ?_
  simp only [Bool.false_eq_true, if_false]
  refine wpS_of_wp (wp_skip ?_)
  cases c₀
  simp_all [bodyPostS, results, Tryd.results53]
theorem rowE {w : World} {g : Nat} {cs0 cs : Array Value} {x : Int} (hg : w.heap[g]? = some (.cells cs0 27 (0, 0))) (he : w.heap[g + 1]? = some (.cells #[.int .i64 x] 37 (0, 0))) :
    (World.setRow w g cs).heap[g]? = some (.cells cs 27 (0, 0)) ∧ (World.setRow w g cs).heap[g + 1]? = some (.cells #[.int .i64 x] 37 (0, 0)) ∧ Below g w (World.setRow w g cs) :=
  ⟨setRow_heap _ g _ _ _ _ hg, (setRow_other _ _ _ _ (Nat.succ_ne_self g)).trans he, below_setRow (Below.refl _ _) (Nat.le_refl _) _⟩
theorem Rds.offE {w : World} {B : Nat} {k : IntKind} {A : Option Addr} {n c : Nat} {xs : List Int} (h : Rds B w k A n c xs) {g : Nat} {cs : Array Value} {fr : Nat × Nat} (hB : B ≤ g) (hg : w.heap[g]? = some (.cells cs 37 fr)) : ∀ a, 0 < n → A = some a → a.block ≠ g := by
  intro a p e q
  rcases (h.safe p a e).2 with k | ⟨cs', t, fr', h1, h2⟩
  · omega
  · rw [q, hg] at h1
    cases h1
    revert h2
    decide
theorem assert7 (w : World) : (Instr.typeAssert (.iface 72 (.agg #[])) 20 72 true).run Tryd.prog w = .ok (.tuple #[.agg #[], .bool true]) w := by kernel_rfl
set_option maxHeartbeats 3200000 in
set_option maxRecDepth 100000 in
theorem catch7_panic {g : Nat} {cs0 : Array Value} {x : Int} (older : List PanicEntry) (w : World) (hg : w.heap[g]? = some (.cells cs0 27 (0, 0))) (h10 : cs0.size = 10) (he : w.heap[g + 1]? = some (.cells #[.int .i64 x] 37 (0, 0))) :
    CallsD Tryd.prog 53 #[.pointer (some ⟨g, 0, none⟩), .pointer (some ⟨g + 1, 0, none⟩)] (.panicking ({ v := .iface 72 (.agg #[]), recovered := false } :: older)) w fun e u' w' =>
      e = .returned (.tuple #[]) ∧ u' = .panicking ({ v := .iface 72 (.agg #[]), recovered := true } :: older) ∧ w'.heap[g]? = some (.cells par0Cs 27 (0, 0)) ∧ w'.heap[g + 1]? = some (.cells #[.int .i64 3] 37 (0, 0)) ∧ Below g w w' := by
  refine callsD_of_wpS Tryd.func53 rfl fun c₀ cs hu => ?_
  apply wpS_seq
  apply wpS_region
  simp [wpOpsS, go_sem, recoverD, hu, Tryd.ntmps53, Exit.thenS]
  refine wpS_of_wp ?_
  have ta := assert7 w
  show Code.wp _ _ _ { tmps := #[.pointer (some ⟨g, 0, none⟩), .pointer (some ⟨g + 1, 0, none⟩), .iface 72 (.agg #[]), undef, undef, .iface 72 (.agg #[]), undef, undef, undef, undef, undef, undef, undef, undef, undef, undef, undef], defers := [] } w
  have hg' : (w.alloc (.cells #[] 72)).heap[g]? = some (.cells cs0 27 (0, 0)) := (Below.heap_alloc _ _ g (lt_of_get hg)).trans hg
  have he' : (w.alloc (.cells #[] 72)).heap[g + 1]? = some (.cells #[.int .i64 x] 37 (0, 0)) := (Below.heap_alloc _ _ (g + 1) (lt_of_get he)).trans he
  obtain ⟨hug, hue, hbu⟩ := rowE (w := w.alloc (.cells #[] 72)) (cs := par0Cs) hg' he'
  have c1 := (cell_of_row _ (g + 1) 0 _ _ _ hue).trans rfl
  have f1 := frozen_of_row _ (g + 1) 0 _ _ hue
  have HUG := Lib.hid hug
  have HUE := Lib.hid hue
  have HBU := Lib.hid (((below_new (w := w) (.cells #[] 72)).mono (Nat.le_of_lt (lt_of_get hg))).trans hbu)
  unfold par0Cs at c1 f1
  clear hug hue hbu he'
  go_wp2_with ((with_reducible show wpList _ _ _ (Oper.mk _ (Op.store 27 (.tmp 0) _) _ _ _ _ :: _) _ _); (refine wp_store_row rfl rfl _ _ _ rfl g _ _ 27 rfl rfl par_size hg' h10 (by simp [Value.oneCell']) ?_))
  refine ⟨rfl, _, rfl, _, results_none rfl _ _ _, rfl, rfl, ?_, in7_set HUE.out _, HBU.out.trans (Below.setCell (Below.refl _ _) (show g ≤ g + 1 by omega) _)⟩
  exact (in7_other _ _ (Nat.ne_of_lt (Nat.lt_succ_self g))).trans HUG.out
def ReadPPost (xs : List Int) (w : World) (e : Ending) (w' : World) : Prop :=
  ∃ s', e = .returned (.tuple #[.agg (parCs (readP xs).1 s'), .int .i64 (readP xs).2]) ∧ ParAt 0 w' (readP xs).1 s' ∧ Below w.heap.size w w'
theorem readP_short {xs : List Int} (h : ¬ 500 < xs.length) : readP xs = match readR xs with | some p => (p, 0) | none => (par0, 3) := by
  unfold readP readR
  rw [if_neg h]
  cases parseS xs.length rs0 xs with
  | none => rfl
  | some s => by_cases q : endS s <;> simp [q]
set_option maxRecDepth 100000 in
theorem endP {U : World} {g : Nat} {p : Par} {s : ParS} {x : Int} {a0 a1 a4 a5 a6 a7 a8 a9 a10 : Value} (hg : ParB U g p s) (he : U.heap[g + 1]? = some (.cells #[.int .i64 x] 37 (0, 0))) :
    (results Tryd.f22 #[a0, a1, .pointer (some ⟨g, 0, none⟩), .pointer (some ⟨g + 1, 0, none⟩), a4, a5, a6, a7, a8, a9, a10]).run Tryd.prog U = .ok (.tuple #[.agg (parCs p s), .int .i64 x]) U := by
  obtain ⟨⟨z0, z1, z2, z3, z4⟩, z5, z6, z7, z8, z9⟩ := hg.ten
  have c1 : U.cell? ⟨g + 1, 0, none⟩ = some (.int .i64 x) := by rw [cell_of_row U _ 0 _ _ _ he]; rfl
  simp [results, Tryd.results22, go_sem, z0, z1, z2, z3, z4, z5, z6, z7, z8, z9, c1, parCs]
set_option maxHeartbeats 6400000 in
set_option maxRecDepth 100000 in
theorem readP_any {A : Option Addr} {c : Nat} {xs : List Int} (w : World) (h : Rds w.heap.size w .u8 A xs.length c xs) (hb : Byt xs) :
    Calls Tryd.prog 22 #[.slice A xs.length c] w (ReadPPost xs w) := by
  obtain ⟨W, hW⟩ : ∃ W, W = (w.alloc (.cells par0Cs 27)).alloc (.cells #[.int .i64 0] 37) := ⟨_, rfl⟩
  have HB := Lib.hid hb
  have HBW : Hid (Below w.heap.size w W) := by rw [hW]; exact below_pair _ _
  have HG : Hid (W.heap[w.heap.size]? = some (.cells par0Cs 27 (0, 0))) := by rw [hW]; exact heap_alloc2_old w _ _
  have HE : Hid (W.heap[w.heap.size + 1]? = some (.cells #[.int .i64 0] 37 (0, 0))) := by rw [hW]; exact heap_alloc2_new w _ _
  have HR : Hid (Rds W.heap.size W .u8 A xs.length c xs) := (h.below HBW.out).mono HBW.out.size
  have hcap := h.cap
  have hmax := h.max
  have hmf : ∀ (fn : Fn) (first cap : Array Value) (w : World), (Instr.makeFunc fn first cap).run Tryd.prog w = .ok (.func fn first cap) w := fun _ _ _ _ => rfl
  clear h hb
  unfold par0Cs at hW
  by_cases hl : 500 < xs.length
  · have hli : (xs.length : Int) > 500 := by omega
    have HP : Hid (readP xs = (par0, 4)) := if_pos hl
    go_enter_defers Tryd.func22, Tryd.ntmps22
    subst hW
    obtain ⟨hug, hue, hbu⟩ := rowE (cs := par0Cs) HG.out HE.out
    have c1 := (cell_of_row _ (w.heap.size + 1) 0 _ _ _ hue).trans rfl
    have f1 := frozen_of_row _ (w.heap.size + 1) 0 _ _ hue
    have HUG := Lib.hid hug
    have HUE := Lib.hid hue
    have HBU := Lib.hid (HBW.out.trans hbu)
    unfold par0Cs at c1 f1
    clear hug hue hbu
    go_wp2_with ((with_reducible show wpList _ _ _ (Oper.mk _ (Op.store 27 (.tmp 2) _) _ _ _ _ :: _) _ _); (refine wp_store_row rfl rfl _ _ _ rfl w.heap.size _ _ 27 rfl rfl par_size HG.out rfl (by simp [Value.oneCell']) ?_))
    refine ⟨_, endP (p := par0) (s := ⟨none, 0, none, 0, none, 0, none, 0⟩) ((in7_other _ _ (Nat.ne_of_lt (Nat.lt_succ_self _))).trans HUG.out) (in7_set HUE.out _), ⟨none, 0, none, 0, none, 0, none, 0⟩, ?_, ?_, ?_⟩
    · rw [HP.out]
    · rw [HP.out]; exact ⟨Rds.nil _ _ _, Rds.nil _ _ _, Rds.nil _ _ _, Rds.nil _ _ _⟩
    · exact HBU.out.trans (Below.setCell (Below.refl _ _) (show w.heap.size ≤ w.heap.size + 1 by omega) _)
  · have hli : ¬ ((xs.length : Int) > 500) := by omega
    have key := readR_any W HR.out HB.out (by omega)
    go_enter_defers Tryd.func22, Tryd.ntmps22
    subst hW
    go_wp2_with fail
    refine key.mono ?_
    clear key
    rintro e w1 ⟨hb1, hm⟩
    have HP := Lib.hid (readP_short hl)
    have HG1 := Lib.hid ((hb1.block _ (lt_of_get HG.out)).trans HG.out)
    have HE1 := Lib.hid ((hb1.block _ (lt_of_get HE.out)).trans HE.out)
    have HB1 := Lib.hid (below_next HBW.out HBW.out.size hb1)
    clear hb1
    cases hr : readR xs with
    | none =>
      rw [hr] at hm HP
      have hm' : e = wrongE := hm
      subst hm'
      unfold wrongE
      show Leaves _ _ _ _ _ _ _
      refine leaves_cons (f := 53) (args := #[.pointer (some ⟨w.heap.size, 0, none⟩), .pointer (some ⟨w.heap.size + 1, 0, none⟩)]) (by simp) (by simp [go_sem]) ?_
      refine (catch7_panic [] w1 HG1.out rfl HE1.out).mono ?_
      rintro e u' w2 ⟨rfl, rfl, hg2, he2, hb2⟩
      refine ⟨_, endP (p := par0) (s := ⟨none, 0, none, 0, none, 0, none, 0⟩) hg2 he2, ⟨none, 0, none, 0, none, 0, none, 0⟩, ?_, ?_, HB1.out.trans hb2⟩
      · rw [HP.out]
      · rw [HP.out]; exact ⟨Rds.nil _ _ _, Rds.nil _ _ _, Rds.nil _ _ _, Rds.nil _ _ _⟩
    | some p =>
      rw [hr] at hm HP
      obtain ⟨s', he, hat⟩ := hm
      subst he
      obtain ⟨hug, hue, hbu⟩ := rowE (cs := parCs p s') HG1.out HE1.out
      have c1 := (cell_of_row _ (w.heap.size + 1) 0 _ _ _ hue).trans rfl
      have f1 := frozen_of_row _ (w.heap.size + 1) 0 _ _ hue
      have HUG := Lib.hid hug
      have HUE := Lib.hid hue
      have HBU := Lib.hid (HB1.out.trans hbu)
      have HAt : Hid (ParAt 0 (World.setRow w1 w.heap.size (parCs p s')) p s') := hat.putG ⟨hbu, fun k _ hne => setRow_other _ _ _ _ hne⟩ HG1.out
      unfold parCs at c1 f1
      clear hug hue hbu hat
      unfold parCs
      go_wp2_with ((with_reducible show wpList _ _ _ (Oper.mk _ (Op.store 27 (.tmp 2) _) _ _ _ _ :: _) _ _); (refine wp_store_row rfl rfl _ _ _ rfl w.heap.size _ _ 27 rfl rfl par_size HG1.out rfl (by simp [Value.oneCell']) ?_))
      show Leaves _ _ _ _ _ _ _
      refine leaves_cons (f := 53) (args := #[.pointer (some ⟨w.heap.size, 0, none⟩), .pointer (some ⟨w.heap.size + 1, 0, none⟩)]) (by simp) (by simp [go_sem]) ?_
      refine (catch7_idle _ _ _).mono ?_
      rintro e u' w2 ⟨rfl, rfl, rfl⟩
      have hpe : PutG (w.heap.size + 1) (World.setRow w1 w.heap.size (parCs p s')) ((World.setRow w1 w.heap.size (parCs p s')).setCell ⟨w.heap.size + 1, 0, none⟩ (.int .i64 0)) := PutG.cell 0 _
      have ha := HAt.out
      have hz := Nat.zero_le (w.heap.size + 1)
      refine ⟨_, endP (p := p) (s := s') ((in7_other _ _ (Nat.ne_of_lt (Nat.lt_succ_self _))).trans HUG.out) (in7_set HUE.out _), s', ?_, ?_, ?_⟩
      · rw [HP.out]
      · rw [HP.out]; exact ⟨ha.goal.putG hpe (ha.goal.offE hz HUE.out), ha.own.putG hpe (ha.own.offE hz HUE.out), ha.retry.putG hpe (ha.retry.offE hz HUE.out), ha.vs.putG hpe (ha.vs.offE hz HUE.out)⟩
      · exact HBU.out.trans (Below.setCell (Below.refl _ _) (show w.heap.size ≤ w.heap.size + 1 by omega) _)
end Go.Proofs.YtbfgoojpbhlboaaDoor
