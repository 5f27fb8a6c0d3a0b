/- The program's layer 7: what gives up, a number of all the bytes, the fields' methods. No condition. -/
import Derived.WalkLawsBesides
import Derived.Carry
import Derived.Test.YtbfgoojpbhlboaaDoorParAt
import Derived.Test.YtbfgoojpbhlboaaDoorPureHello
import Derived.Test.YtbfgoojpbhlboaaDoorVarRead
import Derived.Test.YtbfgoojpbhlboaaDoorMapInt
import Derived.Test.YtbfgoojpbhlboaaDoorParamsWrite
set_option linter.unusedVariables false
set_option linter.unusedSimpArgs false
namespace Go.Proofs.YtbfgoojpbhlboaaDoor
open Go Go.RowKit

/-- How the reading gives up. -/
def wrongE : Ending := .panicked [{ v := .iface 72 (.agg #[]), recovered := false }]
theorem need_yes (w : World) : Calls Tryd.prog 87 #[.bool true] w fun e w' => e = .returned (.tuple #[]) ∧ w' = w := by
  go_enter Tryd.func87, Tryd.ntmps87
  go_wp2_with fail
  go_end0
  exact ⟨rfl, rfl⟩
theorem need_no (w : World) : Calls Tryd.prog 87 #[.bool false] w fun e w' => e = wrongE ∧ w' = w := by
  go_enter Tryd.func87, Tryd.ntmps87
  go_wp2_with fail
  exact ⟨rfl, rfl, rfl⟩
theorem need_any (b : Bool) (w : World) : Calls Tryd.prog 87 #[.bool b] w fun e w' => e = (if b then .returned (.tuple #[]) else wrongE) ∧ w' = w := by
  cases b
  · exact need_no w
  · exact need_yes w
set_option maxHeartbeats 3200000 in
set_option maxRecDepth 100000 in
theorem number_any {B : Nat} (A : Option Addr) (n c : Nat) (xs : List Int) (w : World) (h : Rds B w .u8 A n c xs) (hb : Byt xs) :
    Calls Tryd.prog 127 #[.slice A n c] w fun e w' => w' = w ∧ e = (match numV xs with | some x => .returned (.int .i64 x) | none => wrongE) := by
  have key := vread_any A n c xs w h hb
  have hn := h.len
  have hcap := h.cap
  have hmax := h.max
  clear h
  obtain ⟨nv, hnv⟩ : ∃ nv, nv = numV xs := ⟨_, rfl⟩
  rw [← hnv]
  go_enter Tryd.func127, Tryd.ntmps127
  go_wp2_with fail
  refine key.mono ?_
  rintro e w' ⟨rfl, hw⟩
  obtain rfl : w' = w := hw.symm
  clear key
  obtain ⟨⟨x, k, er⟩, hr⟩ : ∃ r, r = readV xs := ⟨_, rfl⟩
  rw [← hr]
  unfold numV at hnv
  rw [← hr] at hnv
  clear hr
  by_cases h0 : er = 0
  · subst h0
    by_cases h1 : k = xs.length
    · subst h1
      have hv : nv = some x := by rw [hnv]; simp
      clear hnv
      subst hv
      rw [hn]
      go_wp2_with fail
      refine (need_yes _).mono ?_
      rintro e w'' ⟨rfl, hw⟩
      obtain rfl : w'' = w' := hw
      go_wp2_with fail
      go_ret
      exact ⟨rfl, rfl⟩
    · have h2 : ((k : Int) == (n : Int)) = false := by simp; omega
      have hv : nv = none := by rw [hnv]; simp [h1]
      clear hnv
      subst hv
      go_wp2_with fail
      refine (need_no _).mono ?_
      rintro e w'' ⟨rfl, hw⟩
      obtain rfl : w'' = w' := hw
      go_wp2_with fail
      exact ⟨rfl, rfl, rfl⟩
  · have hv : nv = none := by rw [hnv]; simp [h0]
    clear hnv
    subst hv
    go_wp2_with fail
    refine (need_no _).mono ?_
    rintro e w'' ⟨rfl, hw⟩
    obtain rfl : w'' = w' := hw
    go_wp2_with fail
    exact ⟨rfl, rfl, rfl⟩
theorem in7_other (w : World) {g i k : Nat} (v : Value) (h : k ≠ g) : (w.setCell ⟨g, i, none⟩ v).heap[k]? = w.heap[k]? := Below.heap_setCell w ⟨g, i, none⟩ v k h
theorem in7_set {w : World} {g i : Nat} {cs : Array Value} {t : TypeId} {fr : Nat × Nat} (h : w.heap[g]? = some (.cells cs t fr)) (v : Value) : (w.setCell ⟨g, i, none⟩ v).heap[g]? = some (.cells (cs.setIfInBounds i v) t fr) := by
  rw [setCell_eq_setRow w g i cs t fr v h]
  exact setRow_heap w g _ _ t _ h
theorem below_setBlock {w w' : World} {g : Nat} (h : Below g w w') (hg : g ≤ w'.heap.size) (o : Obj) : Below g w (ChangeMaps.setBlock w' g o) :=
  h.grown (w' := ChangeMaps.setBlock w' g o) (row := some g) ⟨rfl, rfl, rfl, by simp [ChangeMaps.setBlock], fun k _ hk => setBlock_off fun e => hk (by rw [e])⟩ hg (fun k e => by cases e; exact Nat.le_refl _)
/-- Nothing but one block has turned. -/
structure PutG (g : Nat) (w w' : World) : Prop where
  bl : Below g w w'
  off : ∀ k, k < w.heap.size → k ≠ g → w'.heap[k]? = w.heap[k]?
theorem PutG.refl (g : Nat) (w : World) : PutG g w w := ⟨Below.refl _ _, fun _ _ _ => rfl⟩
theorem PutG.trans {g : Nat} {a b c : World} (h : PutG g a b) (k : PutG g b c) : PutG g a c :=
  ⟨h.bl.trans k.bl, fun i hi hne => (k.off i (Nat.lt_of_lt_of_le hi h.bl.size) hne).trans (h.off i hi hne)⟩
theorem PutG.cell {g : Nat} {w : World} (i : Nat) (u : Value) : PutG g w (w.setCell ⟨g, i, none⟩ u) :=
  ⟨Below.setCell (Below.refl _ _) (show g ≤ g from Nat.le_refl g) _, fun k _ hne => in7_other _ _ hne⟩
theorem PutG.of_below {g : Nat} {w w' : World} (h : Below w.heap.size w w') (hg : g ≤ w.heap.size) : PutG g w w' := ⟨h.mono hg, fun k hk _ => h.block k hk⟩
theorem Rds.putG {B : Nat} {w w' : World} {k : IntKind} {A : Option Addr} {n c : Nat} {xs : List Int} (h : Rds B w k A n c xs) {g : Nat} (hp : PutG g w w') (ho : ∀ a, 0 < n → A = some a → a.block ≠ g) : Rds B w' k A n c xs := by
  refine ⟨h.len, h.cap, h.max, fun j hj => ?_, fun p a e => ?_⟩
  · obtain ⟨ad, e, hc⟩ := h.cell j hj
    have hp0 : 0 < n := by have := h.len; omega
    refine ⟨ad, e, ?_⟩
    rw [← hc]
    exact World.cell?_of_block (by rw [add_block]; exact hp.off _ (h.safe hp0 ad e).1 (ho ad hp0 e))
  · have hk := h.safe p a e
    refine ⟨Nat.lt_of_lt_of_le hk.1 hp.bl.size, hk.2.imp id ?_⟩
    rintro ⟨cs', t, fr, q1, q2⟩
    exact ⟨cs', t, fr, (hp.off _ hk.1 (ho a p e)).trans q1, q2⟩
theorem Rds.offP {w : World} {B : Nat} {k : IntKind} {A : Option Addr} {n c : Nat} {xs : List Int} (h : Rds B w k A n c xs) {g : Nat} {cs : Array Value} {fr : Nat × Nat} (hB : B ≤ g) (hg : w.heap[g]? = some (.cells cs 27 fr)) : ∀ a, 0 < n → A = some a → a.block ≠ g := by
  intro a p e q
  rcases (h.safe p a e).2 with k | ⟨cs', t, fr', h1, h2⟩
  · omega
  · rw [q, hg] at h1
    cases h1
    revert h2
    decide
theorem ParAt.putG {w w' : World} {p : Par} {s : ParS} (h : ParAt 0 w p s) {g : Nat} {cs : Array Value} {fr : Nat × Nat} (hp : PutG g w w') (hg : w.heap[g]? = some (.cells cs 27 fr)) : ParAt 0 w' p s :=
  ⟨h.goal.putG hp (h.goal.offP (Nat.zero_le _) hg), h.own.putG hp (h.own.offP (Nat.zero_le _) hg), h.retry.putG hp (h.retry.offP (Nat.zero_le _) hg), h.vs.putG hp (h.vs.offP (Nat.zero_le _) hg)⟩
/-- What a field's method leaves. -/
def SetPost (g : Nat) (p : Par) (s : ParS) (n : Int) (v : List Int) (w : World) (e : Ending) (w' : World) : Prop :=
  PutG g w w' ∧ match setP p n v with | some p' => e = .returned (.tuple #[]) ∧ ∃ s', PX w' g p' s' ∧ (n ≠ 17 → s'.vA = s.vA ∧ s'.vc = s.vc) | none => e = wrongE
/-! The methods, printed by gen_parset.py. -/
set_option maxHeartbeats 1600000 in
set_option maxRecDepth 100000 in
theorem set0_any {g : Nat} {p : Par} {s : ParS} {A : Option Addr} {c : Nat} {v : List Int} (w : World) (h : PX w g p s) (hv : Rds 0 w .u8 A v.length c v) :
    Calls Tryd.prog 111 #[.pointer (some ⟨g, 0, none⟩), .slice A v.length c] w (SetPost g p s 0 v w) := by
  have hb := h.b
  have hq := h.h
  unfold ParB at hb
  obtain ⟨⟨a0, a1, a2, a3, a4⟩, a5, a6, a7, a8, a9⟩ := h.b.ten
  have hf : ∀ i, w.frozen? ⟨g, i, none⟩ = false := fun i => frozen_of_row w g i _ _ hb
  have f2 := hf 2
  have f5 := hf 5
  have f5' : (w.setCell ⟨g, 2, none⟩ (.bool true)).frozen? ⟨g, 5, none⟩ = false := frozen_of_row _ g 5 _ _ (in7_set hb _)
  go_enter Tryd.func111, Tryd.ntmps111
  go_wp2_with fail
  go_end0
  have hp : PutG g w ((w.setCell ⟨g, 2, none⟩ (.bool true)).setCell ⟨g, 5, none⟩ (.slice A v.length c)) := (PutG.cell 2 _).trans (PutG.cell 5 _)
  refine ⟨hp, ?_⟩
  refine ⟨rfl, { s with gA := A, gc := c }, ⟨?_, ?_⟩, fun _ => ⟨rfl, rfl⟩⟩
  · exact in7_set (in7_set hb _) _
  · exact ParAt.putG (⟨hv, hq.own, hq.retry, hq.vs⟩ : ParAt 0 w { p with hg := true, goal := v } { s with gA := A, gc := c }) hp hb
set_option maxHeartbeats 1600000 in
set_option maxRecDepth 100000 in
theorem set15_any {g : Nat} {p : Par} {s : ParS} {A : Option Addr} {c : Nat} {v : List Int} (w : World) (h : PX w g p s) (hv : Rds 0 w .u8 A v.length c v) :
    Calls Tryd.prog 114 #[.pointer (some ⟨g, 0, none⟩), .slice A v.length c] w (SetPost g p s 15 v w) := by
  have hb := h.b
  have hq := h.h
  unfold ParB at hb
  obtain ⟨⟨a0, a1, a2, a3, a4⟩, a5, a6, a7, a8, a9⟩ := h.b.ten
  have hf : ∀ i, w.frozen? ⟨g, i, none⟩ = false := fun i => frozen_of_row w g i _ _ hb
  have f2 := hf 3
  have f5 := hf 6
  have f5' : (w.setCell ⟨g, 3, none⟩ (.bool true)).frozen? ⟨g, 6, none⟩ = false := frozen_of_row _ g 6 _ _ (in7_set hb _)
  go_enter Tryd.func114, Tryd.ntmps114
  go_wp2_with fail
  go_end0
  have hp : PutG g w ((w.setCell ⟨g, 3, none⟩ (.bool true)).setCell ⟨g, 6, none⟩ (.slice A v.length c)) := (PutG.cell 3 _).trans (PutG.cell 6 _)
  refine ⟨hp, ?_⟩
  refine ⟨rfl, { s with oA := A, oc := c }, ⟨?_, ?_⟩, fun _ => ⟨rfl, rfl⟩⟩
  · exact in7_set (in7_set hb _) _
  · exact ParAt.putG (⟨hq.goal, hv, hq.retry, hq.vs⟩ : ParAt 0 w { p with ho := true, own := v } { s with oA := A, oc := c }) hp hb
set_option maxHeartbeats 1600000 in
set_option maxRecDepth 100000 in
theorem set16_any {g : Nat} {p : Par} {s : ParS} {A : Option Addr} {c : Nat} {v : List Int} (w : World) (h : PX w g p s) (hv : Rds 0 w .u8 A v.length c v) :
    Calls Tryd.prog 115 #[.pointer (some ⟨g, 0, none⟩), .slice A v.length c] w (SetPost g p s 16 v w) := by
  have hb := h.b
  have hq := h.h
  unfold ParB at hb
  obtain ⟨⟨a0, a1, a2, a3, a4⟩, a5, a6, a7, a8, a9⟩ := h.b.ten
  have hf : ∀ i, w.frozen? ⟨g, i, none⟩ = false := fun i => frozen_of_row w g i _ _ hb
  have f2 := hf 4
  have f5 := hf 7
  have f5' : (w.setCell ⟨g, 4, none⟩ (.bool true)).frozen? ⟨g, 7, none⟩ = false := frozen_of_row _ g 7 _ _ (in7_set hb _)
  go_enter Tryd.func115, Tryd.ntmps115
  go_wp2_with fail
  go_end0
  have hp : PutG g w ((w.setCell ⟨g, 4, none⟩ (.bool true)).setCell ⟨g, 7, none⟩ (.slice A v.length c)) := (PutG.cell 4 _).trans (PutG.cell 7 _)
  refine ⟨hp, ?_⟩
  refine ⟨rfl, { s with rA := A, rc := c }, ⟨?_, ?_⟩, fun _ => ⟨rfl, rfl⟩⟩
  · exact in7_set (in7_set hb _) _
  · exact ParAt.putG (⟨hq.goal, hq.own, hv, hq.vs⟩ : ParAt 0 w { p with hr := true, retry := v } { s with rA := A, rc := c }) hp hb
set_option maxHeartbeats 1600000 in
set_option maxRecDepth 100000 in
theorem set1_any {g : Nat} {p : Par} {s : ParS} {A : Option Addr} {c : Nat} {v : List Int} (w : World) (h : PX w g p s) (hv : Rds 0 w .u8 A v.length c v) (hy : Byt v) :
    Calls Tryd.prog 112 #[.pointer (some ⟨g, 0, none⟩), .slice A v.length c] w (SetPost g p s 1 v w) := by
  have hb := h.b
  have hq := h.h
  unfold ParB at hb
  have key := number_any A v.length c v w hv hy
  have hf : w.frozen? ⟨g, 0, none⟩ = false := frozen_of_row w g 0 _ _ hb
  obtain ⟨⟨a0, a1, a2, a3, a4⟩, a5, a6, a7, a8, a9⟩ := h.b.ten
  have hset : setP p 1 v = (numV v).map fun x => { p with idle := x } := rfl
  unfold SetPost
  rw [hset]
  clear hset
  obtain ⟨nv, hnv⟩ : ∃ nv, nv = numV v := ⟨_, rfl⟩
  rw [← hnv] at key ⊢
  clear hnv
  cases nv with
  | none =>
    show Calls _ _ _ w (fun e w' => PutG g w w' ∧ e = wrongE)
    go_enter Tryd.func112, Tryd.ntmps112
    go_wp2_with fail
    refine key.mono ?_
    clear key
    rintro e w' ⟨hw, he⟩
    subst hw
    subst he
    unfold wrongE
    go_wp2_with fail
    exact ⟨rfl, PutG.refl _ _, rfl⟩
  | some x =>
    show Calls _ _ _ w (fun e w' => PutG g w w' ∧ e = .returned (.tuple #[]) ∧ ∃ s', PX w' g { p with idle := x } s' ∧ ((1 : Int) ≠ 17 → s'.vA = s.vA ∧ s'.vc = s.vc))
    go_enter Tryd.func112, Tryd.ntmps112
    go_wp2_with fail
    refine key.mono ?_
    clear key
    rintro e w' ⟨hw, he⟩
    subst hw
    subst he
    go_wp2_with fail
    go_end0
    have hp : PutG g w' (w'.setCell ⟨g, 0, none⟩ (.int .i64 x)) := PutG.cell 0 _
    refine ⟨hp, rfl, s, ⟨?_, ?_⟩, fun _ => ⟨rfl, rfl⟩⟩
    · exact in7_set hb _
    · exact ParAt.putG (⟨hq.goal, hq.own, hq.retry, hq.vs⟩ : ParAt 0 w' { p with idle := x } s) hp hb
set_option maxHeartbeats 1600000 in
set_option maxRecDepth 100000 in
theorem set4_any {g : Nat} {p : Par} {s : ParS} {A : Option Addr} {c : Nat} {v : List Int} (w : World) (h : PX w g p s) (hv : Rds 0 w .u8 A v.length c v) (hy : Byt v) :
    Calls Tryd.prog 113 #[.pointer (some ⟨g, 0, none⟩), .slice A v.length c] w (SetPost g p s 4 v w) := by
  have hb := h.b
  have hq := h.h
  unfold ParB at hb
  have key := number_any A v.length c v w hv hy
  have hf : w.frozen? ⟨g, 1, none⟩ = false := frozen_of_row w g 1 _ _ hb
  obtain ⟨⟨a0, a1, a2, a3, a4⟩, a5, a6, a7, a8, a9⟩ := h.b.ten
  have hset : setP p 4 v = (numV v).map fun x => { p with data := x } := rfl
  unfold SetPost
  rw [hset]
  clear hset
  obtain ⟨nv, hnv⟩ : ∃ nv, nv = numV v := ⟨_, rfl⟩
  rw [← hnv] at key ⊢
  clear hnv
  cases nv with
  | none =>
    show Calls _ _ _ w (fun e w' => PutG g w w' ∧ e = wrongE)
    go_enter Tryd.func113, Tryd.ntmps113
    go_wp2_with fail
    refine key.mono ?_
    clear key
    rintro e w' ⟨hw, he⟩
    subst hw
    subst he
    unfold wrongE
    go_wp2_with fail
    exact ⟨rfl, PutG.refl _ _, rfl⟩
  | some x =>
    show Calls _ _ _ w (fun e w' => PutG g w w' ∧ e = .returned (.tuple #[]) ∧ ∃ s', PX w' g { p with data := x } s' ∧ ((4 : Int) ≠ 17 → s'.vA = s.vA ∧ s'.vc = s.vc))
    go_enter Tryd.func113, Tryd.ntmps113
    go_wp2_with fail
    refine key.mono ?_
    clear key
    rintro e w' ⟨hw, he⟩
    subst hw
    subst he
    go_wp2_with fail
    go_end0
    have hp : PutG g w' (w'.setCell ⟨g, 1, none⟩ (.int .i64 x)) := PutG.cell 1 _
    refine ⟨hp, rfl, s, ⟨?_, ?_⟩, fun _ => ⟨rfl, rfl⟩⟩
    · exact in7_set hb _
    · exact ParAt.putG (⟨hq.goal, hq.own, hq.retry, hq.vs⟩ : ParAt 0 w' { p with data := x } s) hp hb
/-- The fields' table. -/
def fieldsEs : Array MapEntry := #[⟨.int .i64 0, .func (.func 111) #[] #[], 0⟩, ⟨.int .i64 1, .func (.func 112) #[] #[], 1⟩, ⟨.int .i64 4, .func (.func 113) #[] #[], 2⟩, ⟨.int .i64 15, .func (.func 114) #[] #[], 3⟩, ⟨.int .i64 16, .func (.func 115) #[] #[], 4⟩, ⟨.int .i64 17, .func (.func 116) #[] #[], 5⟩]
def fieldF (n : Int) : Value :=
  if n = 0 then .func (.func 111) #[] #[] else if n = 1 then .func (.func 112) #[] #[] else if n = 4 then .func (.func 113) #[] #[]
  else if n = 15 then .func (.func 114) #[] #[] else if n = 16 then .func (.func 115) #[] #[] else if n = 17 then .func (.func 116) #[] #[] else .nilFunc
set_option maxHeartbeats 1600000 in
set_option maxRecDepth 100000 in
theorem fields_any (w : World) : Calls Tryd.prog 89 #[] w fun e w' => e = .returned (.map (some w.heap.size)) ∧ w'.heap[w.heap.size]? = some (.map fieldsEs 6) ∧ Below w.heap.size w w' := by
  have hmm := @run_makeMap Tryd.prog
  go_enter Tryd.func89, Tryd.ntmps89
  go_wp2_with fail
  obtain ⟨w0, hw0⟩ : ∃ w0, w0 = w.alloc (.map #[] 0) := ⟨_, rfl⟩
  have hb : w0.heap[w.heap.size]? = some (.map #[] 0) := by rw [hw0]; exact heap_alloc_new w _
  have hB : Below w.heap.size w w0 := by rw [hw0]; exact below_new _
  have hk := IntKeys.nil
  rw [← hw0]
  clear hw0 hmm
  rw [run_put_int (n := 0) Tryd.underlying108 Tryd.underlying3 hb hk (by simp) (.func (.func 111) #[] #[])]
  obtain ⟨w1, hw1⟩ : ∃ w1, w1 = ChangeMaps.setBlock w0 w.heap.size (.map ((#[]).push ⟨.int .i64 0, (.func (.func 111) #[] #[]), 0⟩) (0 + 1)) := ⟨_, rfl⟩
  replace hb : w1.heap[w.heap.size]? = some (.map ((#[]).push ⟨.int .i64 0, (.func (.func 111) #[] #[]), 0⟩) (0 + 1)) := by rw [hw1]; exact setBlock_at (lt_of_get hb)
  replace hB : Below w.heap.size w w1 := by rw [hw1]; exact below_setBlock hB hB.size _
  replace hk := hk.push 0 (.func (.func 111) #[] #[]) 0
  rw [← hw1]
  clear hw1
  go_wp2_with fail
  rw [run_put_int (n := 1) Tryd.underlying108 Tryd.underlying3 hb hk (by simp) (.func (.func 112) #[] #[])]
  obtain ⟨w2, hw2⟩ : ∃ w2, w2 = ChangeMaps.setBlock w1 w.heap.size (.map (((#[]).push ⟨.int .i64 0, (.func (.func 111) #[] #[]), 0⟩).push ⟨.int .i64 1, (.func (.func 112) #[] #[]), 1⟩) (1 + 1)) := ⟨_, rfl⟩
  replace hb : w2.heap[w.heap.size]? = some (.map (((#[]).push ⟨.int .i64 0, (.func (.func 111) #[] #[]), 0⟩).push ⟨.int .i64 1, (.func (.func 112) #[] #[]), 1⟩) (1 + 1)) := by rw [hw2]; exact setBlock_at (lt_of_get hb)
  replace hB : Below w.heap.size w w2 := by rw [hw2]; exact below_setBlock hB hB.size _
  replace hk := hk.push 1 (.func (.func 112) #[] #[]) 1
  rw [← hw2]
  clear hw2
  go_wp2_with fail
  rw [run_put_int (n := 4) Tryd.underlying108 Tryd.underlying3 hb hk (by simp) (.func (.func 113) #[] #[])]
  obtain ⟨w3, hw3⟩ : ∃ w3, w3 = ChangeMaps.setBlock w2 w.heap.size (.map ((((#[]).push ⟨.int .i64 0, (.func (.func 111) #[] #[]), 0⟩).push ⟨.int .i64 1, (.func (.func 112) #[] #[]), 1⟩).push ⟨.int .i64 4, (.func (.func 113) #[] #[]), 2⟩) (2 + 1)) := ⟨_, rfl⟩
  replace hb : w3.heap[w.heap.size]? = some (.map ((((#[]).push ⟨.int .i64 0, (.func (.func 111) #[] #[]), 0⟩).push ⟨.int .i64 1, (.func (.func 112) #[] #[]), 1⟩).push ⟨.int .i64 4, (.func (.func 113) #[] #[]), 2⟩) (2 + 1)) := by rw [hw3]; exact setBlock_at (lt_of_get hb)
  replace hB : Below w.heap.size w w3 := by rw [hw3]; exact below_setBlock hB hB.size _
  replace hk := hk.push 4 (.func (.func 113) #[] #[]) 2
  rw [← hw3]
  clear hw3
  go_wp2_with fail
  rw [run_put_int (n := 15) Tryd.underlying108 Tryd.underlying3 hb hk (by simp) (.func (.func 114) #[] #[])]
  obtain ⟨w4, hw4⟩ : ∃ w4, w4 = ChangeMaps.setBlock w3 w.heap.size (.map (((((#[]).push ⟨.int .i64 0, (.func (.func 111) #[] #[]), 0⟩).push ⟨.int .i64 1, (.func (.func 112) #[] #[]), 1⟩).push ⟨.int .i64 4, (.func (.func 113) #[] #[]), 2⟩).push ⟨.int .i64 15, (.func (.func 114) #[] #[]), 3⟩) (3 + 1)) := ⟨_, rfl⟩
  replace hb : w4.heap[w.heap.size]? = some (.map (((((#[]).push ⟨.int .i64 0, (.func (.func 111) #[] #[]), 0⟩).push ⟨.int .i64 1, (.func (.func 112) #[] #[]), 1⟩).push ⟨.int .i64 4, (.func (.func 113) #[] #[]), 2⟩).push ⟨.int .i64 15, (.func (.func 114) #[] #[]), 3⟩) (3 + 1)) := by rw [hw4]; exact setBlock_at (lt_of_get hb)
  replace hB : Below w.heap.size w w4 := by rw [hw4]; exact below_setBlock hB hB.size _
  replace hk := hk.push 15 (.func (.func 114) #[] #[]) 3
  rw [← hw4]
  clear hw4
  go_wp2_with fail
  rw [run_put_int (n := 16) Tryd.underlying108 Tryd.underlying3 hb hk (by simp) (.func (.func 115) #[] #[])]
  obtain ⟨w5, hw5⟩ : ∃ w5, w5 = ChangeMaps.setBlock w4 w.heap.size (.map ((((((#[]).push ⟨.int .i64 0, (.func (.func 111) #[] #[]), 0⟩).push ⟨.int .i64 1, (.func (.func 112) #[] #[]), 1⟩).push ⟨.int .i64 4, (.func (.func 113) #[] #[]), 2⟩).push ⟨.int .i64 15, (.func (.func 114) #[] #[]), 3⟩).push ⟨.int .i64 16, (.func (.func 115) #[] #[]), 4⟩) (4 + 1)) := ⟨_, rfl⟩
  replace hb : w5.heap[w.heap.size]? = some (.map ((((((#[]).push ⟨.int .i64 0, (.func (.func 111) #[] #[]), 0⟩).push ⟨.int .i64 1, (.func (.func 112) #[] #[]), 1⟩).push ⟨.int .i64 4, (.func (.func 113) #[] #[]), 2⟩).push ⟨.int .i64 15, (.func (.func 114) #[] #[]), 3⟩).push ⟨.int .i64 16, (.func (.func 115) #[] #[]), 4⟩) (4 + 1)) := by rw [hw5]; exact setBlock_at (lt_of_get hb)
  replace hB : Below w.heap.size w w5 := by rw [hw5]; exact below_setBlock hB hB.size _
  replace hk := hk.push 16 (.func (.func 115) #[] #[]) 4
  rw [← hw5]
  clear hw5
  go_wp2_with fail
  rw [run_put_int (n := 17) Tryd.underlying108 Tryd.underlying3 hb hk (by simp) (.func (.func 116) #[] #[])]
  obtain ⟨w6, hw6⟩ : ∃ w6, w6 = ChangeMaps.setBlock w5 w.heap.size (.map (((((((#[]).push ⟨.int .i64 0, (.func (.func 111) #[] #[]), 0⟩).push ⟨.int .i64 1, (.func (.func 112) #[] #[]), 1⟩).push ⟨.int .i64 4, (.func (.func 113) #[] #[]), 2⟩).push ⟨.int .i64 15, (.func (.func 114) #[] #[]), 3⟩).push ⟨.int .i64 16, (.func (.func 115) #[] #[]), 4⟩).push ⟨.int .i64 17, (.func (.func 116) #[] #[]), 5⟩) (5 + 1)) := ⟨_, rfl⟩
  replace hb : w6.heap[w.heap.size]? = some (.map (((((((#[]).push ⟨.int .i64 0, (.func (.func 111) #[] #[]), 0⟩).push ⟨.int .i64 1, (.func (.func 112) #[] #[]), 1⟩).push ⟨.int .i64 4, (.func (.func 113) #[] #[]), 2⟩).push ⟨.int .i64 15, (.func (.func 114) #[] #[]), 3⟩).push ⟨.int .i64 16, (.func (.func 115) #[] #[]), 4⟩).push ⟨.int .i64 17, (.func (.func 116) #[] #[]), 5⟩) (5 + 1)) := by rw [hw6]; exact setBlock_at (lt_of_get hb)
  replace hB : Below w.heap.size w w6 := by rw [hw6]; exact below_setBlock hB hB.size _
  replace hk := hk.push 17 (.func (.func 116) #[] #[]) 5
  rw [← hw6]
  clear hw6
  go_wp2_with fail
  go_ret
  exact ⟨rfl, hb, hB⟩

theorem zero_func7 (w : World) : (zeroValue 107).run Tryd.prog w = .ok .nilFunc w := by kernel_rfl
theorem fields_keys : IntKeys fieldsEs := by
  intro e he
  simp [fieldsEs] at he
  rcases he with rfl | rfl | rfl | rfl | rfl | rfl <;> exact ⟨_, rfl⟩
theorem look_fields {w : World} {mb : Nat} (hb : w.heap[mb]? = some (.map fieldsEs 6)) (n : Int) : (Instr.lookup 108 (.map (some mb)) (.int .i64 n) false).run Tryd.prog w = .ok (fieldF n) w := by
  by_cases h : n = 0 ∨ n = 1 ∨ n = 4 ∨ n = 15 ∨ n = 16 ∨ n = 17
  · refine run_look_some Tryd.underlying108 Tryd.underlying3 hb fields_keys ?_ ?_
    · intro e he hk
      simp [fieldsEs] at he
      rcases h with rfl | rfl | rfl | rfl | rfl | rfl <;> rcases he with rfl | rfl | rfl | rfl | rfl | rfl <;> first | rfl | (exfalso; revert hk; simp)
    · rcases h with rfl | rfl | rfl | rfl | rfl | rfl <;> simp [fieldsEs]
  · have e : fieldF n = .nilFunc := by
      unfold fieldF
      rw [if_neg (by omega), if_neg (by omega), if_neg (by omega), if_neg (by omega), if_neg (by omega), if_neg (by omega)]
    rw [e]
    refine run_look_none Tryd.underlying108 Tryd.underlying3 (zero_func7 w) hb fields_keys ?_
    intro e he hk
    simp [fieldsEs] at he
    apply h
    rcases he with rfl | rfl | rfl | rfl | rfl | rfl <;> simp at hk <;> omega
end Go.Proofs.YtbfgoojpbhlboaaDoor
