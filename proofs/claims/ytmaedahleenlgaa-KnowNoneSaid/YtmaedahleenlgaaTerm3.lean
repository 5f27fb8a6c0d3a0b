/- What kinds, Contains and formed do. No condition. -/
import Derived.Test.YtmaedahleenlgaaTerm2
set_option linter.unusedVariables false
set_option linter.unusedSimpArgs false
namespace Go.Proofs.Ytmaedahleenlgaa
open Go Go.RowKit Go.WideMaps

/-- All fit an int. -/
def I64 (xs : List Int) : Prop := ∀ x ∈ xs, -9223372036854775808 ≤ x ∧ x ≤ 9223372036854775807
theorem I64.nth {xs : List Int} (h : I64 xs) (j : Nat) : -9223372036854775808 ≤ nth xs j ∧ nth xs j ≤ 9223372036854775807 := by
  by_cases hj : j < xs.length
  · exact h _ (nth_mem hj)
  · simp [Go.Proofs.Ytmaedahleenlgaa.nth, List.getElem?_eq_none (show xs.length ≤ j by omega)]
theorem nodeT_kind (T : List Nd) (h : Int) : (nodeT T h).kind = kindT T h := by
  unfold nodeT kindT
  cases getT T h <;> rfl

def KindsPost (T : List Nd) (xs : List Int) (w : World) (e : Ending) (w' : World) : Prop := ∃ v, e = .returned v ∧ OwnI w' w.heap.size .i64 v (xs.map (kindT T)) ∧ Below w.heap.size w w'
set_option maxHeartbeats 1600000 in
set_option maxRecDepth 100000 in
theorem kinds_any {B B' tb : Nat} {T : List Nd} (A : Option Addr) (n c : Nat) (xs : List Int) (w : World) (ht : IsTab B w tb T) (hr : Rds B' w .i64 A n c xs) (hx : I64 xs) (hn : n ≤ 1000000) :
    Calls Try.prog 39 #[.pointer (some ⟨tb, 0, none⟩), .slice A n c] w (KindsPost T xs w) := by
  have HT := Lib.hid ht; clear ht
  have hl := Lib.hid hr.len
  have HR := Lib.hid hr; clear hr
  have HX := Lib.hid hx; clear hx
  go_enter Try.func39, Try.ntmps39
  go_wp2_with fail
  go_loopw [5, 12] (fun v i wr => ∃ k : Nat, k ≤ n ∧ i = .int .i64 k ∧ OwnI wr w.heap.size .i64 v ((xs.take k).map (kindT T)) ∧ Below w.heap.size w wr) (fun _ i _ => n - (intOf i).toNat)
  case atStart => exact ⟨0, Nat.zero_le _, rfl, OwnI.nil _ _ _, Below.refl _ _⟩
  case round =>
    obtain ⟨k, hk, rfl, hown, hb⟩ := hrel
    have HO := Lib.hid hown
    have HB := Lib.hid hb
    clear hown hb
    by_cases hlt : k < n
    · have hR := HR.out.below HB.out
      obtain ⟨b, o, rfl, hcx⟩ := RdI.at_ hR.cell (by have := hl.out; omega)
      have g1 := hcx k (by have := hl.out; omega)
      clear hcx hR
      have hki := HX.out.nth k
      go_wp2_with fail
      refine (look_any (nth xs k) wr (HT.out.below HB.out) hki.1 hki.2).mono ?_
      rintro e w1 ⟨A1, c1, rfl, ho1, hb1⟩
      have hb1s := hb1.size
      have HB1 := Lib.hid (below_step HB.out hb1)
      have HO1 := Lib.hid (HO.out.below hb1)
      rw [nodeT_kind]
      clear ho1 hb1
      generalize (nodeT T (nth xs k)).text = tx
      generalize (nodeT T (nth xs k)).parts.length = ln
      go_wp2_with (at_builtin; refine wp_app_int (ys := [kindT T (nth xs k)]) rfl _ _ rfl rfl rfl ((HO1.out.below (below_new _)).below (below_new _)) (RdI.one_at _ .i64 _ _ (World.size_alloc _ _)) rfl ?_ ?_ ?_)
      · have := HB1.out.size; simp; omega
      · have := hl.out; simp; omega
      intro v' w3 hv3 hg3 hb3
      have HV := Lib.hid hv3
      have HB3 := Lib.hid (((HB1.out.alloc HB1.out.size _).alloc (by have := HB1.out.size; simp; omega) _).trans hb3)
      clear hv3 hg3 hb3
      go_wp2_with fail
      go_roundw
      case rel => exact ⟨k + 1, by omega, by go_num, by have := HV.out; rw [take_nth_succ (by have := hl.out; omega)]; simpa using this, HB3.out⟩
      case measure => simp [intOf]; omega
    · go_wp2_with fail
      go_ret
      refine ⟨_, rfl, ?_, HB.out⟩
      have := HO.out
      rwa [List.take_of_length_le (by have := hl.out; omega)] at this

def ZeroPost (xs : List Int) (w : World) (e : Ending) (w' : World) : Prop := ∃ r : Int, e = .returned (.int .i64 r) ∧ -1 ≤ r ∧ (r = -1 ↔ (0 : Int) ∉ xs) ∧ w = w'
theorem no_zero {xs : List Int} {n : Nat} (hn : xs.length = n) (h : ∀ j, j < n → nth xs j ≠ 0) : (0 : Int) ∉ xs := by
  intro hx
  obtain ⟨j, hj⟩ := List.mem_iff_getElem?.1 hx
  have hl := (List.getElem?_eq_some_iff.1 hj).1
  rw [nth_lt hl] at hj
  exact h j (by omega) (by simpa using hj)
set_option maxHeartbeats 800000 in
set_option maxRecDepth 100000 in
theorem index_zero {B : Nat} (A : Option Addr) (n c : Nat) (xs : List Int) (w : World) (h : Rds B w .i64 A n c xs) :
    Calls Try.prog 52 #[.slice A n c, .int .i64 0] w (ZeroPost xs w) := by
  have Hl := Lib.hid h.len
  have Hc := Lib.hid h.cell
  have hm : n ≤ 9223372036854775807 := Nat.le_trans h.cap h.max
  clear h
  go_enter Try.func52, Try.ntmps52
  go_wp2_with fail
  go_loop [8] (fun i => ∃ k : Nat, k ≤ n ∧ i = .int .i64 k ∧ Hid (∀ j, j < k → nth xs j ≠ 0)) (fun i => n - (intOf i).toNat)
  case atStart => exact ⟨0, Nat.zero_le _, rfl, fun j hj => by omega⟩
  case round =>
    obtain ⟨k, hk, rfl, hq⟩ := hrel
    by_cases hlt : k < n
    · obtain ⟨b, o, rfl, hcx⟩ := RdI.at_ Hc.out (by have := Hl.out; omega)
      have g1 := hcx k (by have := Hl.out; omega)
      clear hcx
      by_cases hz : nth xs k = 0
      · have hz' : (0 == nth xs k) = true := by simp [hz]
        have HZ := Lib.hid hz; clear hz
        go_wp2_with fail
        go_ret
        exact ⟨k, rfl, by omega, ⟨fun h => by omega, fun h => (h (by rw [← HZ.out]; exact nth_mem (by have := Hl.out; omega))).elim⟩, rfl⟩
      · have hz' : (0 == nth xs k) = false := by simp; exact fun h => hz h.symm
        have HZ := Lib.hid hz; clear hz
        go_wp2_with fail
        go_round
        case rel => exact ⟨k + 1, by omega, by go_num, fun j hj => by
          rcases Nat.lt_or_ge j k with h | h
          · exact hq.out j h
          · obtain rfl : j = k := by omega
            exact HZ.out⟩
        case measure => simp [intOf]; omega
    · go_wp2_with fail
      go_ret
      exact ⟨-1, rfl, by omega, ⟨fun _ => no_zero Hl.out fun j hj => hq.out j (by omega), fun _ => rfl⟩, rfl⟩
def HasZeroPost (xs : List Int) (w : World) (e : Ending) (w' : World) : Prop := e = .returned (.bool (decide ((0 : Int) ∈ xs))) ∧ w = w'
set_option maxHeartbeats 400000 in
theorem contains_zero {B : Nat} (A : Option Addr) (n c : Nat) (xs : List Int) (w : World) (h : Rds B w .i64 A n c xs) :
    Calls Try.prog 40 #[.slice A n c, .int .i64 0] w (HasZeroPost xs w) := by
  have H := Lib.hid h; clear h
  go_enter Try.func40, Try.ntmps40
  go_wp2_with fail
  refine (index_zero A n c xs w H.out).mono ?_
  rintro e w1 ⟨r, rfl, hr, hi, rfl⟩
  have HI := Lib.hid hi; clear hi
  go_wp2_with fail
  go_ret
  refine ⟨?_, rfl⟩
  by_cases h : r = -1
  · have := HI.out.1 h
    subst h
    rw [decide_eq_false this]
    rfl
  · have h2 : (0 : Int) ∈ xs := Classical.byContradiction fun k => h (HI.out.2 k)
    rw [decide_eq_true h2, decide_eq_true (show 0 ≤ r by omega)]
    rfl
end Go.Proofs.Ytmaedahleenlgaa
