/- The helpers of the laws of layer 2: terms, Step.parts. No condition. -/
import Derived.Test.YtoelbhmgmlnieaaRefMake
set_option linter.unusedVariables false
set_option linter.unusedSimpArgs false
namespace Go.Proofs.Ytoelbhmgmlnieaa
open Go Go.RowKit Go.WideMaps

def TermsPost (xs : List Int) (w : World) (e : Ending) (w' : World) : Prop := ∃ v, e = .returned v ∧ OwnI w' w.heap.size .i64 v xs ∧ Below w.heap.size w w'
set_option maxHeartbeats 1600000 in
set_option maxRecDepth 100000 in
theorem terms_any {B' : Nat} (A : Option Addr) (n c : Nat) (xs : List Int) (w : World) (hr : Rds B' w .i64 A n c xs) (hn : n ≤ 1000000) :
    Calls Try.prog 49 #[.slice A n c] w (TermsPost xs w) := by
  have hl := Lib.hid hr.len
  have HR := Lib.hid hr; clear hr
  go_enter Try.func49, Try.ntmps49
  go_wp2_with fail
  go_loopw [3, 4] (fun v i wr => ∃ k : Nat, k ≤ n ∧ i = .int .i64 k ∧ OwnI wr w.heap.size .i64 v (xs.take k) ∧ Below w.heap.size w wr) (fun _ i _ => n - (intOf i).toNat)
  case atStart => exact ⟨0, Nat.zero_le _, rfl, OwnI.nil _ _ _, Below.refl _ _⟩
  case round =>
    obtain ⟨k, hk, rfl, hown, hb⟩ := hrel
    have HO := Lib.hid hown
    have HB := Lib.hid hb
    clear hown hb
    by_cases hlt : k < n
    · have hR := HR.out.below HB.out
      obtain ⟨b, o, rfl, hcx⟩ := RdI.at_ hR.cell (by have := hl.out; omega)
      have g1 := hcx k (by have := hl.out; omega)
      clear hcx hR
      go_wp2_with (at_builtin; refine wp_app_term (ys := [nth xs k]) rfl _ _ rfl rfl rfl (HO.out.below (below_new _)) (RdI.one_at _ .i64 _ _ rfl) rfl ?_ ?_ ?_)
      · have := HB.out.size; simp; omega
      · have := hl.out; simp; omega
      intro v' w3 hv3 hg3 hb3
      have HV := Lib.hid hv3
      have HB3 := Lib.hid ((HB.out.alloc HB.out.size _).trans hb3)
      clear hv3 hg3 hb3
      go_wp2_with fail
      go_roundw
      case rel => exact ⟨k + 1, by omega, by go_num, by have := HV.out; rw [take_nth_succ (by have := hl.out; omega)]; exact this, HB3.out⟩
      case measure => simp [intOf]; omega
    · go_wp2_with fail
      go_ret
      refine ⟨_, rfl, ?_, HB.out⟩
      have := HO.out
      rwa [List.take_of_length_le (by have := hl.out; omega)] at this

theorem empty_at {w : World} {B g : Nat} {t : Nat} (hg : w.heap.size = g) (hB : B ≤ g) (ht : spT t = false) : OwnI (w.alloc (.cells #[] t)) B .i64 (.slice (some ⟨g, 0, none⟩) 0 0) [] := by
  subst hg
  exact OwnI.empty hB ht
def nearT (size x : Int) : Int := Int.tmod (Int.tmod x size + size) size + 1
def partsT (near : Bool) (size : Int) (xs : List Int) : List Int := if near = true ∧ 0 < size then xs.map (nearT size) else xs
set_option maxHeartbeats 1600000 in
set_option maxRecDepth 100000 in
theorem parts_far {B' : Nat} (kind : Int) (text : ByteArray) (A : Option Addr) (n c : Nat) (xs : List Int) (near : Bool) (size : Int) (w : World) (hr : Rds B' w .i64 A n c xs) (hn : n ≤ 1000000) (hs : ¬ (near = true ∧ 0 < size)) :
    Calls Try.prog 47 #[.agg #[.int .i64 kind, .string text, .slice A n c, .bool near], .int .i64 size] w (TermsPost (partsT near size xs) w) := by
  have hl := Lib.hid hr.len
  have HR := Lib.hid hr; clear hr
  have HP : Hid (partsT near size xs = xs) := if_neg hs
  go_enter Try.func47, Try.ntmps47
  go_wp2_with (at_builtin; refine wp_app_int (xs := []) (ys := xs) rfl _ _ rfl rfl rfl (empty_at (B := w.heap.size + 1) (g := w.heap.size + 1) (World.size_alloc _ _) (Nat.le_refl _) sp_int) ?_ hl.out ?_ ?_ ?_)
  · exact ((HR.out.below (below_new _)).below (below_new _)).cell
  · simp
  · simp; omega
  intro v' w3 hv3 hg3 hb3
  try simp only [List.nil_append] at hv3
  obtain ⟨A3, c3, rfl⟩ := hv3.slice
  rw [hl.out] at hv3 ⊢
  have HO := Lib.hid hv3
  have hsz := hb3.size
  have d3 : w3.cell? ⟨w.heap.size, 3, none⟩ = some (.bool near) := (Below.cell hb3 (by simp)).trans (by simp [go_sem])
  have HB3 := Lib.hid ((below_two (w := w) (.cells #[.int .i64 kind, .string text, .slice A n c, .bool near] 79) (.cells #[] 3)).trans (hb3.mono (Nat.le_succ _)))
  clear hv3 hg3 hb3 hsz
  go_wp2_with fail
  refine wp_loop_rounds 1 ?_
  rw [rounds_succ]
  cases near with
  | false =>
    go_wp2_with fail
    all_goals
      go_ret
      rw [HP.out]
      exact ⟨_, rfl, HO.out.mono (Nat.le_succ _), HB3.out⟩
  | true =>
    have hs0 : ¬ 0 < size := fun h => hs ⟨rfl, h⟩
    go_wp2_with fail
    all_goals
      go_ret
      rw [HP.out]
      exact ⟨_, rfl, HO.out.mono (Nat.le_succ _), HB3.out⟩
end Go.Proofs.Ytoelbhmgmlnieaa
