/- The helpers of the laws of layer 2: terms, Step.parts. No condition. -/
import Derived.Test.YtoelbhmgmlnieaaSteps
set_option linter.unusedVariables false
set_option linter.unusedSimpArgs false
namespace Go.Proofs.Ytoelbhmgmlnieaa
open Go Go.RowKit Go.WideMaps

theorem wrap_in {x : Int} (h : -9223372036854775808 ≤ x ∧ x ≤ 9223372036854775807) : wrap64 x = x := (IntWalk.i64_left x).symm.trans (IntWalk.i64_in x h)
theorem near_set {size : Int} {xs : List Int} {k : Nat} (h : k < xs.length) : ((xs.take k).map (nearT size) ++ xs.drop k).set k (nearT size (nth xs k)) = (xs.take (k + 1)).map (nearT size) ++ xs.drop (k + 1) := by
  have hd : xs.drop k = nth xs k :: xs.drop (k + 1) := by
    rw [List.drop_eq_getElem_cons h]
    have := nth_lt h
    rw [List.getElem?_eq_getElem h] at this
    rw [Option.some.inj this]
  have hl : ((xs.take k).map (nearT size)).length = k := by simp; omega
  rw [take_nth_succ h, hd, List.set_append_right _ _ (by omega), hl, Nat.sub_self]
  simp
set_option maxHeartbeats 1600000 in
set_option maxRecDepth 100000 in
theorem parts_near {B' : Nat} (kind : Int) (text : ByteArray) (A : Option Addr) (n c : Nat) (xs : List Int) (size : Int) (w : World) (hr : Rds B' w .i64 A n c xs) (hn : n ≤ 1000000) (hx : I64 xs) (hs : 0 < size) (hs2 : size ≤ 70000) :
    Calls Try.prog 47 #[.agg #[.int .i64 kind, .string text, .slice A n c, (.bool true)], .int .i64 size] w (TermsPost (partsT true size xs) w) := by
  have hl := Lib.hid hr.len
  have HR := Lib.hid hr; clear hr
  have HX := Lib.hid hx; clear hx
  have HP : Hid (partsT true size xs = xs.map (nearT size)) := if_pos ⟨rfl, hs⟩
  go_enter Try.func47, Try.ntmps47
  go_wp2_with (at_builtin; refine wp_app_int (xs := []) (ys := xs) rfl _ _ rfl rfl rfl (empty_at (B := w.heap.size + 1) (g := w.heap.size + 1) (World.size_alloc _ _) (Nat.le_refl _) sp_int) ?_ hl.out ?_ ?_ ?_)
  · exact ((HR.out.below (below_new _)).below (below_new _)).cell
  · simp
  · simp; omega
  intro v' w3 hv3 hg3 hb3
  try simp only [List.nil_append] at hv3
  obtain ⟨A3, c3, rfl⟩ := hv3.slice
  rw [hl.out] at hv3 ⊢
  have HO := Lib.hid hv3
  have hsz := hb3.size
  have d3 : w3.cell? ⟨w.heap.size, 3, none⟩ = some ((.bool true)) := (Below.cell hb3 (by simp)).trans (by simp [go_sem])
  have HB3 := Lib.hid ((below_two (w := w) (.cells #[.int .i64 kind, .string text, .slice A n c, (.bool true)] 79) (.cells #[] 3)).trans (hb3.mono (Nat.le_succ _)))
  clear hv3 hg3 hb3 hsz
  go_wp2_with fail
  go_loopw [6] (fun i wr => ∃ k : Nat, k ≤ n ∧ i = .int .i64 k ∧ OwnI wr (w.heap.size + 1) .i64 (.slice A3 n c3) ((xs.take k).map (nearT size) ++ xs.drop k) ∧ Below (w.heap.size + 1) w3 wr) (fun i _ => n - (intOf i).toNat)
  case atStart => exact ⟨0, Nat.zero_le _, rfl, by simpa using HO.out, Below.refl _ _⟩
  case round =>
    obtain ⟨k, hk, rfl, hown, hb⟩ := hrel
    have d3' : wr.cell? ⟨w.heap.size, 3, none⟩ = some (.bool true) := (Below.cell hb (by simp)).trans d3
    have HO2 := Lib.hid hown
    have HB := Lib.hid hb
    clear hown hb
    by_cases hlt : k < n
    · have hlen : ((xs.take k).map (nearT size) ++ xs.drop k).length = n := by have := hl.out; simp; omega
      obtain ⟨g, cap, e1, hg0, hgl, -, hc, hfz, hset⟩ := HO2.out.form (by rw [hlen]; omega)
      rw [hlen] at e1 hc hset
      cases e1
      have hx0 : nth ((xs.take k).map (nearT size) ++ xs.drop k) k = nth xs k := by
        have := hl.out
        rw [nth_append_right (by simp; omega)]
        simp only [List.length_map, List.length_take]
        have e : min k xs.length = k := by omega
        rw [e, Nat.sub_self]
        have h1 := nth_lt (xs := xs) (j := k) (by omega)
        have h2 := nth_lt (xs := xs.drop k) (j := 0) (by simp; omega)
        rw [List.getElem?_drop, Nat.add_zero, h1] at h2
        exact (Option.some.inj h2).symm
      have x0 := hc k hlt
      rw [hx0] at x0
      have z0 := hfz k
      have HS := Lib.hid (hset k (nearT size (nth xs k)) hlt)
      have hr := HX.out.nth k
      have hk0 : (0 : Int) ≤ (k : Int) := by omega
      have hkn : (k : Int) < (n : Int) := by omega
      clear hc hfz hset hx0
      go_wp2_with fail
      have hw1 : wrap64 ((nth xs k).tmod size + size) = (nth xs k).tmod size + size := wrap_in (by have := Int.tmod_lt_of_pos (nth xs k) hs; have := Int.lt_tmod_of_pos (nth xs k) hs; omega)
      have hw2 : wrap64 (((nth xs k).tmod size + size).tmod size + 1) = nearT size (nth xs k) := wrap_in (by have := Int.tmod_lt_of_pos ((nth xs k).tmod size + size) hs; have := Int.lt_tmod_of_pos ((nth xs k).tmod size + size) hs; omega)
      rw [hw1, hw2]
      refine ⟨⟨k + 1, by omega, by go_num, ?_, HB.out.setCell hg0 _⟩, by simp [intOf]; omega⟩
      have := HS.out
      rwa [near_set (by have := hl.out; omega)] at this
    · obtain rfl : k = n := by omega
      go_wp2_with fail
      go_ret
      rw [HP.out]
      have h1 := HO2.out.mono (B' := w.heap.size) (Nat.le_succ _)
      rw [List.take_of_length_le (by have := hl.out; omega), List.drop_eq_nil_of_le (by have := hl.out; omega), List.append_nil] at h1
      exact ⟨_, rfl, h1, HB3.out.trans (HB.out.mono (Nat.le_succ _))⟩
end Go.Proofs.Ytoelbhmgmlnieaa
