/- Own texts, one behind the other. Each bears its own remark. -/
import Derived.Test.YtbfgoojpbhlboaaDoorVarGive
import Derived.Test.YtbfgoojpbhlboaaDoorLater
/- Small functions of layer 7. No condition. -/
set_option linter.unusedVariables false
set_option linter.unusedSimpArgs false
namespace Go.Proofs.YtbfgoojpbhlboaaDoor
open Go Go.RowKit

set_option maxHeartbeats 800000 in
theorem version_any (n : Int) (w : World) : Calls Tryd.prog 43 #[.int .i64 n] w fun e w' => e = .returned (.bool (decide (verOk n))) ∧ w' = w := by
  go_enter Tryd.func43, Tryd.ntmps43
  by_cases h1 : 1 ≤ n
  · by_cases h2 : n < 4294967296
    · have hv : decide (verOk n) = true := decide_eq_true ⟨h1, h2⟩
      have HV := Lib.hid hv
      clear hv
      go_wp2_with fail
      go_ret
      exact ⟨by rw [HV.out]; rfl, rfl⟩
    · have hv : decide (verOk n) = false := decide_eq_false fun k => h2 k.2
      have HV := Lib.hid hv
      clear hv
      go_wp2_with fail
      go_ret
      exact ⟨by rw [HV.out]; rfl, rfl⟩
  · have hv : decide (verOk n) = false := decide_eq_false fun k => h1 k.1
    have HV := Lib.hid hv
    clear hv
    go_wp2_with fail
    go_ret
    exact ⟨by rw [HV.out]; rfl, rfl⟩
def namedN (there : Bool) (n : Nat) : Bool := decide (n ≤ 20) && (there || decide (n = 0))
theorem namedN_eq (there : Bool) (b : List Int) : namedN there b.length = decide (nameOk there b) := by
  unfold namedN nameOk
  cases there <;> simp
set_option maxHeartbeats 800000 in
theorem named_any (there : Bool) (A : Option Addr) (n c : Nat) (w : World) : Calls Tryd.prog 44 #[.bool there, .slice A n c] w fun e w' => e = .returned (.bool (namedN there n)) ∧ w' = w := by
  obtain ⟨r, hr⟩ : ∃ r, r = namedN there n := ⟨_, rfl⟩
  rw [← hr]
  have HR := Lib.hid hr
  clear hr
  go_enter Tryd.func44, Tryd.ntmps44
  by_cases h1 : n ≤ 20
  · have h1' : (n : Int) ≤ 20 := by omega
    cases there with
    | true =>
      go_wp2_with fail
      go_ret
      exact ⟨by rw [HR.out]; simp [namedN, h1], rfl⟩
    | false =>
      by_cases h0 : n = 0
      · subst h0
        go_wp2_with fail
        go_ret
        exact ⟨by rw [HR.out]; simp [namedN], rfl⟩
      · have hb : ((n : Int) == 0) = false := by rw [beq_eq_false_iff_ne]; omega
        go_wp2_with fail
        go_ret
        exact ⟨by rw [HR.out]; simp [namedN, h0], rfl⟩
  · have h1' : ¬ (n : Int) ≤ 20 := by omega
    go_wp2_with fail
    go_ret
    exact ⟨by rw [HR.out]; simp [namedN, h1], rfl⟩
set_option maxHeartbeats 800000 in
theorem notver_any (n : Int) (w : World) : Calls Tryd.prog 46 #[.int .i64 n] w fun e w' => e = .returned (.bool (!decide (verOk n))) ∧ w' = w := by
  have key := version_any n w
  go_enter Tryd.func46, Tryd.ntmps46
  go_wp2_with fail
  refine key.mono ?_
  clear key
  rintro e w1 ⟨rfl, rfl⟩
  go_wp2_with fail
  go_ret
  exact ⟨rfl, rfl⟩
set_option maxHeartbeats 800000 in
theorem big4_any (n : Int) (h0 : 0 ≤ n) (w : World) : Calls Tryd.prog 37 #[.int .i64 n] w (BytesPost (bigB n) w) := by
  go_enter Tryd.func37, Tryd.ntmps37
  go_wp2_with fail
  go_ret
  exact ⟨_, rfl, OwnI.fresh (xs := bigB n) (t := 5) (Nat.le_refl _) sp_u8 (by simp [bigB]), below_new _⟩

def IntsPost (xs : List Int) (w : World) (e : Ending) (w' : World) : Prop := ∃ v, e = .returned v ∧ OwnI w' w.heap.size .i64 v xs ∧ Below w.heap.size w w'
set_option maxHeartbeats 800000 in
set_option maxRecDepth 100000 in
theorem cloneI_any {B : Nat} (A : Option Addr) (n c : Nat) (xs : List Int) (w : World) (hr : Rds B w .i64 A n c xs) (hn : n ≤ 1000000) : Calls Tryd.prog 40 #[.slice A n c] w (IntsPost xs w) := by
  have hl := Lib.hid hr.len
  cases A with
  | none =>
    have h0 : n = 0 := by
      rcases Nat.eq_zero_or_pos n with h | h
      · exact h
      · obtain ⟨ad, e, _⟩ := hr.cell 0 (by have := hr.len; omega)
        cases e
    subst h0
    have hx : xs = [] := List.eq_nil_of_length_eq_zero hl.out
    subst hx
    have he := Lib.run_eql_slice_nil (P := Tryd.prog) w 23 3 none 0 c 0 0 Tryd.underlying23
    clear hr
    go_enter Tryd.func40, Tryd.ntmps40
    go_wp2_with fail
    go_ret
    exact ⟨_, rfl, OwnI.nil _ _ _, Below.refl _ _⟩
  | some a =>
    have he := Lib.run_eql_slice_nil (P := Tryd.prog) w 23 3 (some a) n c 0 0 Tryd.underlying23
    have HR := Lib.hid hr
    clear hr
    go_enter Tryd.func40, Tryd.ntmps40
    go_wp2_with (at_builtin; refine wp_app_int (xs := []) (ys := xs) rfl _ _ rfl rfl rfl (OwnI.empty (B := w.heap.size) (Nat.le_refl _) sp_int) ?_ hl.out ?_ ?_ ?_)
    · exact (HR.out.below (below_new _)).cell
    · simp
    · simp; omega
    intro v' w3 hv3 hg3 hb3
    try simp only [List.nil_append] at hv3
    have HV := Lib.hid hv3
    clear hv3 hg3
    go_wp2_with fail
    go_ret
    exact ⟨_, rfl, HV.out, ((Below.refl _ _).alloc (Nat.le_refl _) _).trans hb3⟩

/-- All may be versions. -/
def NoBad (xs : List Int) : Prop := ∀ v ∈ xs, verOk v
instance (xs : List Int) : Decidable (NoBad xs) := by unfold NoBad; infer_instance
set_option maxHeartbeats 1600000 in
set_option maxRecDepth 100000 in
theorem indexBad_any {B : Nat} (A : Option Addr) (n c : Nat) (xs : List Int) (w : World) (hr : Rds B w .i64 A n c xs) (hn : n ≤ 1000000) :
    Calls Tryd.prog 84 #[.slice A n c, .func (.func 46) #[] #[]] w fun e w' => (∃ i : Int, e = .returned (.int .i64 i) ∧ (0 ≤ i ↔ ¬ NoBad xs)) ∧ w' = w := by
  have HR := Lib.hid hr
  have HL := Lib.hid hr.len
  clear hr
  go_enter Tryd.func84, Tryd.ntmps84
  go_wp2_with fail
  go_loop [8] (fun i => ∃ k : Nat, k ≤ n ∧ i = .int .i64 k ∧ Hid (∀ j, j < k → verOk (nth xs j))) (fun i => n - (intOf i).toNat)
  case atStart => exact ⟨0, Nat.zero_le _, rfl, fun j hj => by omega⟩
  case round =>
    obtain ⟨k, hk, rfl, hq⟩ := hrel
    by_cases hlt : k < n
    · obtain ⟨b, o, rfl, hcx⟩ := RdI.at_ HR.out.cell (by have := HL.out; omega)
      have g1 := hcx k (by have := HL.out; omega)
      have key := notver_any (nth xs k) w
      clear hcx
      go_wp2_with fail
      refine key.mono ?_
      clear key
      rintro e w1 ⟨rfl, rfl⟩
      by_cases hz : verOk (nth xs k)
      · have hz' : decide (verOk (nth xs k)) = true := decide_eq_true hz
        have HZ := Lib.hid hz; clear hz
        rw [hz']
        go_wp2_with fail
        go_round
        case rel => exact ⟨k + 1, by omega, by go_num, fun j hj => by
          rcases Nat.lt_or_ge j k with h | h
          · exact hq.out j h
          · obtain rfl : j = k := by omega
            exact HZ.out⟩
        case measure => simp [intOf]; omega
      · have hz' : decide (verOk (nth xs k)) = false := decide_eq_false hz
        have HZ := Lib.hid hz; clear hz
        rw [hz']
        go_wp2_with fail
        go_ret
        exact ⟨⟨(k : Int), rfl, ⟨fun _ h => HZ.out (h _ (nth_mem (by have := HL.out; omega))), fun _ => by omega⟩⟩, rfl⟩
    · obtain rfl : k = n := by omega
      go_wp2_with fail
      go_ret
      exact ⟨⟨-1, rfl, ⟨fun h => by omega, fun h => absurd (show NoBad xs from fun v hv => by
        obtain ⟨j, hj, rfl⟩ := List.getElem_of_mem hv
        rw [← nth_get hj]
        exact hq.out j (by have := HL.out; omega)) h⟩⟩, rfl⟩
set_option maxHeartbeats 800000 in
set_option maxRecDepth 100000 in
theorem hasBad_any {B : Nat} (A : Option Addr) (n c : Nat) (xs : List Int) (w : World) (hr : Rds B w .i64 A n c xs) (hn : n ≤ 1000000) :
    Calls Tryd.prog 45 #[.slice A n c, .func (.func 46) #[] #[]] w fun e w' => e = .returned (.bool (!decide (NoBad xs))) ∧ w' = w := by
  have key := indexBad_any A n c xs w hr hn
  go_enter Tryd.func45, Tryd.ntmps45
  go_wp2_with fail
  refine key.mono ?_
  clear key
  rintro e w1 ⟨⟨i, rfl, hi⟩, rfl⟩
  have HI := Lib.hid hi
  clear hi
  go_wp2_with fail
  go_ret
  refine ⟨?_, rfl⟩
  by_cases h : NoBad xs
  · have : ¬ 0 ≤ i := fun k => HI.out.1 k h
    rw [decide_eq_true h]
    simp [this]
  · have : 0 ≤ i := HI.out.2 h
    rw [decide_eq_false h]
    simp [this]
end Go.Proofs.YtbfgoojpbhlboaaDoor

/- The closure of Write (layer 7): a name is written behind what is there. No condition but the table of bit places. -/
set_option linter.unusedVariables false
set_option linter.unusedSimpArgs false
namespace Go.Proofs.YtbfgoojpbhlboaaDoor
open Go Go.RowKit

/-- A variable of bytes of the call's own. -/
def OutAt (w : World) (g B : Nat) (xs : List Int) : Prop := ∃ v, w.heap[g]? = some (.cells #[v] 22 (0, 0)) ∧ OwnI w B .u8 v xs
theorem out_set {w w' : World} {g B : Nat} {v v' : Value} {xs : List Int} (h : w.heap[g]? = some (.cells #[v] 22 (0, 0))) (ho : OwnI w B .u8 v' xs) (hB : g < B) : OutAt (w.setCell ⟨g, 0, none⟩ v') g B xs :=
  ⟨v', by rw [setCell_eq_setRow w g 0 _ _ _ v' h]; exact setRow_heap w g _ _ _ _ h, ho.setBelow hB _⟩

set_option maxHeartbeats 1600000 in
set_option maxRecDepth 100000 in
theorem wname_any {B B' : Nat} (N : Int) (there : Bool) (A2 : Option Addr) (n2 c2 : Nat) (ys : List Int) (g : Nat) (xs : List Int) (w : World) (hv : OutAt w g B xs) (hB : g < B) (hBw : B ≤ w.heap.size) (hr : Rds B' w .u8 A2 n2 c2 ys) (hx : xs.length ≤ 90000) (hn2 : n2 ≤ 90000) (ht : Tz w) :
    Calls Tryd.prog 34 #[.int .i64 N, .bool there, .slice A2 n2 c2, .pointer (some ⟨g, 0, none⟩)] w fun e w' => e = .returned (.tuple #[]) ∧ OutAt w' g B (xs ++ nameB N there ys) ∧ Below g w w' ∧ w.heap.size ≤ w'.heap.size := by
  cases there with
  | false =>
    have HV := Lib.hid hv
    clear hv hr ht
    go_enter Tryd.func34, Tryd.ntmps34
    go_wp2_with fail
    go_end0
    refine ⟨rfl, ?_, Below.refl _ _, Nat.le_refl _⟩
    have : xs ++ nameB N false ys = xs := by simp [nameB]
    rw [this]
    exact HV.out
  | true =>
    obtain ⟨v, hg, ho⟩ := hv
    obtain ⟨A, c, rfl⟩ := ho.slice
    have key := field_any A xs.length c xs N A2 n2 c2 ys w (ho.rds (B' := 0)) hr hx hn2 ht
    have g0 := cell_of_row w g 0 _ _ _ hg
    have f0 : w.frozen? ⟨g, 0, none⟩ = false := by simp [World.frozen?, hg]
    have HG := Lib.hid hg
    have g0' : w.cell? ⟨g, 0, none⟩ = some (.slice A xs.length c) := by rw [g0]; rfl
    have lg := lt_of_get hg
    clear ho hr ht hg g0
    go_enter Tryd.func34, Tryd.ntmps34
    go_wp2_with fail
    refine key.mono ?_
    clear key
    rintro e w1 ⟨v1, rfl, hv1, hb1⟩
    obtain ⟨zs, hzs⟩ : ∃ zs, zs = xs ++ fieldB N ys := ⟨_, rfl⟩
    rw [← hzs] at hv1
    have HZ := Lib.hid hzs
    obtain ⟨A1, c1, rfl⟩ := hv1.slice
    have y0 := later_cell hb1 g0' lg
    have y1 := frozen_later hb1 (a := ⟨g, 0, none⟩) lg f0
    have HG1 : Hid (w1.heap[g]? = some (.cells #[.slice A xs.length c] 22 (0, 0))) := (hb1.block _ lg).trans HG.out
    have HV := Lib.hid hv1
    have HB := Lib.hid hb1
    clear hv1 hb1 g0' f0 hzs
    go_wp2_with fail
    go_end0
    refine ⟨rfl, ?_, (HB.out.mono (Nat.le_of_lt lg)).setCell (Nat.le_refl _) _, ?_⟩
    · have e : xs ++ nameB N true ys = zs := by rw [HZ.out]; simp [nameB]
      rw [e]
      exact out_set (w' := w1) HG1.out (HV.out.mono hBw) hB
    · have := HB.out.size
      simpa [World.setCell] using this
end Go.Proofs.YtbfgoojpbhlboaaDoor

/- Params in memory. No condition. -/
set_option linter.unusedVariables false
set_option linter.unusedSimpArgs false
namespace Go.Proofs.YtbfgoojpbhlboaaDoor
open Go Go.RowKit

/-- Params as they lie: their slices' places. -/
structure ParS where
  gA : Option Addr
  gc : Nat
  oA : Option Addr
  oc : Nat
  rA : Option Addr
  rc : Nat
  vA : Option Addr
  vc : Nat
def parCs (p : Par) (s : ParS) : Array Value := #[.int .i64 p.idle, .int .i64 p.data, .bool p.hg, .bool p.ho, .bool p.hr, .slice s.gA p.goal.length s.gc, .slice s.oA p.own.length s.oc, .slice s.rA p.retry.length s.rc, .int .i64 p.chosen, .slice s.vA p.vs.length s.vc]
structure ParAt (B : Nat) (w : World) (p : Par) (s : ParS) : Prop where
  goal : Rds B w .u8 s.gA p.goal.length s.gc p.goal
  own : Rds B w .u8 s.oA p.own.length s.oc p.own
  retry : Rds B w .u8 s.rA p.retry.length s.rc p.retry
  vs : Rds B w .i64 s.vA p.vs.length s.vc p.vs
theorem ParAt.below {B : Nat} {w w' : World} {p : Par} {s : ParS} (h : ParAt B w p s) (hb : Below w.heap.size w w') : ParAt B w' p s := ⟨h.goal.below hb, h.own.below hb, h.retry.below hb, h.vs.below hb⟩
/-- The local variable of params. -/
def ParB (w : World) (b : Nat) (p : Par) (s : ParS) : Prop := w.heap[b]? = some (.cells (parCs p s) 27 (0, 0))
theorem ParB.cell {w : World} {b : Nat} {p : Par} {s : ParS} (h : ParB w b p s) (i : Nat) : w.cell? ⟨b, i, none⟩ = (parCs p s)[i]? := by rw [cell_of_row w b i _ _ _ h]
theorem ParB.later {w w' : World} {B b : Nat} {p : Par} {s : ParS} (h : ParB w b p s) (hb : Below B w w') (hB : b < B) : ParB w' b p s := (hb.block _ hB).trans h
theorem ParB.names {w : World} {b : Nat} {p : Par} {s : ParS} (h : ParB w b p s) : (w.cell? ⟨b, 2, none⟩ = some (.bool p.hg) ∧ w.cell? ⟨b, 5, none⟩ = some (.slice s.gA p.goal.length s.gc)) ∧ (w.cell? ⟨b, 3, none⟩ = some (.bool p.ho) ∧ w.cell? ⟨b, 6, none⟩ = some (.slice s.oA p.own.length s.oc)) ∧ (w.cell? ⟨b, 4, none⟩ = some (.bool p.hr) ∧ w.cell? ⟨b, 7, none⟩ = some (.slice s.rA p.retry.length s.rc)) :=
  ⟨⟨h.cell 2, h.cell 5⟩, ⟨h.cell 3, h.cell 6⟩, ⟨h.cell 4, h.cell 7⟩⟩
theorem OutAt.cell {w : World} {g B : Nat} {xs : List Int} (h : OutAt w g B xs) : ∃ A c, w.cell? ⟨g, 0, none⟩ = some (.slice A xs.length c) ∧ OwnI w B .u8 (.slice A xs.length c) xs ∧ w.heap[g]? = some (.cells #[.slice A xs.length c] 22 (0, 0)) ∧ w.frozen? ⟨g, 0, none⟩ = false := by
  obtain ⟨v, hg, ho⟩ := h
  obtain ⟨A, c, rfl⟩ := ho.slice
  exact ⟨A, c, by rw [cell_of_row w g 0 _ _ _ hg]; rfl, ho, hg, by simp [World.frozen?, hg]⟩
def RightPost (p : Par) (w : World) (e : Ending) (w' : World) : Prop := e = .returned (.bool (decide (rightP p))) ∧ Below w.heap.size w w'

end Go.Proofs.YtbfgoojpbhlboaaDoor
