/- law03.told. No condition. -/
import Derived.Test.YtmaedahleenlgaaKnow12
set_option linter.unusedVariables false
set_option linter.unusedSimpArgs false
namespace Go.Proofs.Ytmaedahleenlgaa
open Go Go.RowKit

theorem folK_pre (F : List Bool) (j : Nat) : ∀ n, j ≤ n → ∃ R, folK F n = folK F j ++ R := by
  intro n
  induction n with
  | zero => intro h; obtain rfl : j = 0 := by omega
            exact ⟨[], by simp⟩
  | succ n ih =>
    intro h
    rcases Nat.lt_or_ge n j with q | q
    · obtain rfl : j = n + 1 := by omega
      exact ⟨[], by simp⟩
    · obtain ⟨R, e⟩ := ih q
      exact ⟨R ++ (if bget F ((n : Int) + 1) then [(n : Int) + 1] else []), by rw [folK_succ, e, List.append_assoc]⟩
theorem folK_at {F : List Bool} {j n : Nat} (hj : j < n) (hb : bget F ((j : Int) + 1) = true) : (folK F j).length < (folK F n).length ∧ nth (folK F n) (folK F j).length = (j : Int) + 1 := by
  obtain ⟨R, e⟩ := folK_pre F (j + 1) n hj
  rw [folK_succ, if_pos hb] at e
  rw [e]
  refine ⟨by simp, ?_⟩
  rw [nth_append_left (by simp), nth_append_right (Nat.le_refl _), Nat.sub_self]
  rfl
set_option maxHeartbeats 3200000 in
set_option maxRecDepth 100000 in
theorem told3_any {B B' : Nat} (X : List Int) (A : Option Addr) (c : Nat) (F : List Bool) (v : Value) (n : Nat) (w : World) (hr : Rds B' w .i64 A X.length c X) (hv : OwnB w B v F) (hF : F.length = n + 1) (hn : n ≤ 1000000) (hX : X = folK F n) :
    Calls Try.prog 15 #[.slice A X.length c, v] w fun e w' => e = .returned (.bool true) ∧ w' = w := by
  obtain ⟨AF, cF, rfl⟩ := hv.slice
  have HV := Lib.hid hv
  have HR := Lib.hid hr
  have HX := Lib.hid hX
  have hle := hr.cap
  have hmx := hr.max
  have hXl : X.length ≤ 1000000 := by rw [hX]; have := folK_len F n; omega
  clear hv hr hX
  rw [hF]
  go_enter Try.func15, Try.ntmps15
  go_wp2_with fail
  go_loop [5, 6] (fun vk vh => ∃ (j k : Nat), j ≤ n ∧ k ≤ X.length ∧ vh = .int .i64 ((j : Int) + 1) ∧ vk = .int .i64 k ∧ Hid (k = (folK F j).length)) (fun _ vh => n + 1 - (intOf vh).toNat)
  case atStart => exact ⟨0, 0, Nat.zero_le _, Nat.zero_le _, rfl, rfl, by show _ = _; simp [folK]⟩
  case round =>
    obtain ⟨j, k, hj, hk, rfl, rfl, HK⟩ := hrel
    by_cases hlt : j < n
    · obtain ⟨g, cap, e, hc, q⟩ := HV.out.at_ (p := (j : Int) + 1) (by omega) (by omega)
      rw [hF] at e hc
      simp only [Value.slice.injEq] at e
      obtain ⟨rfl, -, rfl⟩ := e
      rw [show ((j : Int) + 1).toNat = j + 1 from by omega] at q
      obtain ⟨b, hb⟩ : ∃ b, b = bget F ((j : Int) + 1) := ⟨_, rfl⟩
      rw [← hb] at q
      have h1 : (j : Int) + 1 < (n : Int) + 1 := by omega
      have h0 : (0 : Int) ≤ (j : Int) + 1 := by omega
      have ht : ((j : Int) + 1).toNat = j + 1 := by omega
      have hsu := folK_succ F j
      rw [← hb] at hsu
      cases b with
      | false =>
        have HN : Hid (k = (folK F (j + 1)).length) := by show _ = _; rw [hsu, HK.out]; simp
        clear hb hsu
        go_wp2_with fail
        go_round
        case rel => exact ⟨j + 1, k, by omega, hk, by go_num, rfl, HN⟩
        case measure => simp [intOf]; omega
      | true =>
        have hat := folK_at hlt hb.symm
        rw [← HX.out, ← HK.out] at hat
        have HN : Hid (k + 1 = (folK F (j + 1)).length) := by show _ = _; rw [hsu, HK.out]; simp
        obtain ⟨bX, oX, rfl, hcx⟩ := RdI.at_ HR.out.cell (by omega)
        have g1 := hcx k hat.1
        rw [hat.2] at g1
        have hkl : ¬ (X.length : Int) ≤ (k : Int) := by omega
        have hk1 : (k : Int) < (X.length : Int) := by omega
        have hnn : (((j : Int) + 1) != ((j : Int) + 1)) = false := by simp
        have hkk := hat.1
        clear hb hsu hat hcx
        go_wp2_with fail
        go_round
        case rel => exact ⟨j + 1, k + 1, by omega, by omega, by go_num, by go_num, HN⟩
        case measure => simp [intOf]; omega
    · obtain rfl : j = n := by omega
      have hk2 : k = X.length := by rw [HX.out]; exact HK.out
      have hnl : ¬ ((j : Int) + 1 < (j : Int) + 1) := by omega
      subst hk2
      go_wp2_with fail
      go_ret
      exact ⟨rfl, rfl⟩
end Go.Proofs.Ytmaedahleenlgaa
