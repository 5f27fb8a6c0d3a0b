/- Own texts, one behind the other. Each bears its own remark. -/
import Derived.Test.YtomopjpfdmpgpaaReadR08
import Derived.Test.YtomopjpfdmpgpaaIdeal3
/- The program's layer 8: small. No condition. -/
set_option linter.unusedVariables false
set_option linter.unusedSimpArgs false
namespace Go.Proofs.Ytomopjpfdmpgpaa
open Go Go.RowKit

set_option maxHeartbeats 1600000 in
set_option maxRecDepth 100000 in
theorem small_four (b o c : Nat) (x0 x1 x2 x3 : Int) (w : World) (h0 : 0 ≤ x0) (k0 : x0 ≤ 255) (h1 : 0 ≤ x1) (k1 : x1 ≤ 255) (h2 : 0 ≤ x2) (k2 : x2 ≤ 255) (h3 : 0 ≤ x3) (k3 : x3 ≤ 255)
    (hb : b < w.heap.size)
    (hc : Hid (∀ j u, [Value.int .u8 x0, .int .u8 x1, .int .u8 x2, .int .u8 x3][j]? = some u → w.cell? ((⟨b, o, none⟩ : Addr).add j) = some u)) :
    Calls Try.prog 35 #[.slice (some ⟨b, o, none⟩) 4 c] w fun e w' => e = .returned (.int .i64 (x0 * 16777216 + x1 * 65536 + x2 * 256 + x3)) ∧ Below w.heap.size w w' := by
  have j1 : bits BinOp.or IntKind.i64 (x0 * 16777216) (x1 * 65536) = x0 * 16777216 + x1 * 65536 := i64_or _ _ 24 (by omega) (by omega) (by omega) (by omega) (by omega) (by omega)
  have j2 : bits BinOp.or IntKind.i64 (x0 * 16777216 + x1 * 65536) (x2 * 256) = x0 * 16777216 + x1 * 65536 + x2 * 256 := i64_or _ _ 16 (by omega) (by omega) (by omega) (by omega) (by omega) (by omega)
  have j3 : bits BinOp.or IntKind.i64 (x0 * 16777216 + x1 * 65536 + x2 * 256) x3 = x0 * 16777216 + x1 * 65536 + x2 * 256 + x3 := i64_or _ _ 8 (by omega) (by omega) (by omega) (by omega) (by omega) (by omega)
  go_enter Try.func35, Try.ntmps35
  go_wp2_with ((with_reducible show wpList _ _ _ (Oper.mk _ (Op.call ⟨Callee.builtin Builtin.copy, _, _⟩) _ _ _ _ :: _) _ _); (refine wp_copy_new rfl _ _ _ _ rfl 5 Try.underlying22 size_u8 w.heap.size rfl 0 4 4 ⟨b, o, none⟩ 4 c rfl rfl _ 101 [Value.int .u8 x0, .int .u8 x1, .int .u8 x2, .int .u8 x3] rfl ?_ ?_ ?_ #[Value.int .u8 x0, .int .u8 x1, .int .u8 x2, .int .u8 x3] rfl ?_); (intro j u hu; rw [World.cell?_alloc_lt _ _ _ (by rw [add_block]; exact hb)]; exact hc.out j u hu); simp; (intro v hv; simp at hv; rcases hv with rfl | rfl | rfl | rfl <;> rfl))
  go_ret
  exact ⟨rfl, below_new _⟩
theorem small_any {B n c : Nat} {A : Option Addr} {xs : List Int} (w : World) (h : Rds B w .u8 A n c xs) (hn : n = 4) (hb : Byt xs) : Calls Try.prog 35 #[.slice A n c] w fun e w' => e = .returned (.int .i64 (beN xs)) ∧ Below w.heap.size w w' := by
  subst hn
  have hl := h.len
  obtain ⟨b, o, rfl, hc⟩ := h.cell.at_ (by omega)
  have e := list_four hl
  have hlt : b < w.heap.size := block_lt_of_cell (hc 0 (by omega))
  have := small_four b o c (nth xs 0) (nth xs 1) (nth xs 2) (nth xs 3) w (hb.nth 0).1 (hb.nth 0).2 (hb.nth 1).1 (hb.nth 1).2 (hb.nth 2).1 (hb.nth 2).2 (hb.nth 3).1 (hb.nth 3).2 hlt (by
    have := news_of hc
    rw [e] at this
    exact this)
  have e2 : beN xs = nth xs 0 * 16777216 + nth xs 1 * 65536 + nth xs 2 * 256 + nth xs 3 := by
    conv => lhs; rw [e]
    simp only [beN, List.foldl]
    omega
  rw [e2]
  exact this
end Go.Proofs.Ytomopjpfdmpgpaa

/- slices.Clone at bytes (as in XVarint2). No condition. -/
set_option linter.unusedVariables false
set_option linter.unusedSimpArgs false
namespace Go.Proofs.Ytomopjpfdmpgpaa
open Go Go.RowKit

set_option maxHeartbeats 800000 in
set_option maxRecDepth 100000 in
theorem clone08_any {B : Nat} (A : Option Addr) (n c : Nat) (xs : List Int) (w : World) (hr : Rds B w .u8 A n c xs) (hn : n ≤ 1000000) : Calls Try.prog 59 #[.slice A n c] w (BytesPost xs w) := by
  have hl := Lib.hid hr.len
  cases A with
  | none =>
    have h0 : n = 0 := by
      rcases Nat.eq_zero_or_pos n with h | h
      · exact h
      · obtain ⟨ad, e, _⟩ := hr.cell 0 (by have := hr.len; omega)
        cases e
    subst h0
    have hx : xs = [] := List.eq_nil_of_length_eq_zero hl.out
    subst hx
    have he := Lib.run_eql_slice_nil (P := Try.prog) w 22 5 none 0 c 0 0 Try.underlying22
    clear hr
    go_enter Try.func59, Try.ntmps59
    go_wp2_with fail
    go_ret
    exact ⟨_, rfl, OwnI.nil _ _ _, Below.refl _ _⟩
  | some a =>
    have he := Lib.run_eql_slice_nil (P := Try.prog) w 22 5 (some a) n c 0 0 Try.underlying22
    have HR := Lib.hid hr
    clear hr
    go_enter Try.func59, Try.ntmps59
    go_wp2_with (at_builtin; refine wp_app_u8 (xs := []) (ys := xs) rfl _ _ rfl rfl rfl (OwnI.empty (B := w.heap.size) (Nat.le_refl _) sp_u8) ?_ hl.out ?_ ?_ ?_)
    · exact (HR.out.below (below_new _)).cell
    · simp
    · simp; omega
    intro v' w3 hv3 hg3 hb3
    try simp only [List.nil_append] at hv3
    have HV := Lib.hid hv3
    clear hv3 hg3
    go_wp2_with fail
    go_ret
    exact ⟨_, rfl, HV.out, ((Below.refl _ _).alloc (Nat.le_refl _) _).trans hb3⟩

end Go.Proofs.Ytomopjpfdmpgpaa
