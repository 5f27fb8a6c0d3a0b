/- The program's own numbers for the library of rows: appends of bytes, of ints, of terms. No condition. -/
import Derived.Test.YtbfgoojpbhlboaaDoorProg
import Derived.Test.YtbfgoojpbhlboaaDoorLib
import Derived.KernelRfl
import Derived.WalkLawsBesides
import Derived.WalkSpells
import Derived.LoopN
import Derived.Handy
import Derived.Deep.Cut
import Derived.Deep.CutBlock
set_option linter.unusedVariables false
namespace Go.Proofs.YtbfgoojpbhlboaaDoor
open Go Go.RowKit

theorem info_u8 : (Tryd.prog.info? 5).map (fun i => (i.zero, i.size, i.bytes)) = some (some (.int .u8 0), 1, 1) := by kernel_rfl
theorem sp_u8 : spT 5 = false := by decide
theorem sp_arr4 : spT 131 = false := by decide
theorem info_int : (Tryd.prog.info? 3).map (fun i => (i.zero, i.size, i.bytes)) = some (some (.int .i64 0), 1, 8) := by kernel_rfl
theorem sp_int : spT 3 = false := by decide

/-- append(s, x...) of bytes. -/
theorem wp_app_u8 {w : World} {ops : Array Oper} {rest : List Oper} {o : Oper} {a : Act} {Q : Exit → Act → World → Prop} (hgd : o.guard = none) (s x : Operand)
    (ho : o.op = .call { callee := .builtin .append, args := #[s, x], argTypes := #[22, 22] })
    {B : Nat} {v : Value} {xs ys : List Int} {A : Option Addr} {m c : Nat} (hv : a.eval s = v) (hx : a.eval x = .slice A m c) (hown : OwnI w B .u8 v xs) (hr : RdI w .u8 A ys) (hm : ys.length = m) (hB : B ≤ w.heap.size) (hbytes : xs.length + m ≤ 140737488355328)
    (h : ∀ v' w', OwnI w' B .u8 v' (xs ++ ys) → w.grownBy w' v.ownBlock → Below B w w' → wpList Tryd.prog ops Q rest (a.put o.dst v') w') : wpList Tryd.prog ops Q (o :: rest) a w := by
  obtain ⟨i, hi, hz0, hz1, hz2⟩ := info_parts info_u8
  exact wp_app hgd s x 22 5 i (.int .u8 0) .u8 1 ho Tryd.underlying22 hi hz0 hz1 hz2 rfl sp_u8 hv hx hown hr hm hB (by omega) (by omega) h
theorem wp_app_int {w : World} {ops : Array Oper} {rest : List Oper} {o : Oper} {a : Act} {Q : Exit → Act → World → Prop} (hgd : o.guard = none) (s x : Operand)
    (ho : o.op = .call { callee := .builtin .append, args := #[s, x], argTypes := #[23, 23] })
    {B : Nat} {v : Value} {xs ys : List Int} {A : Option Addr} {m c : Nat} (hv : a.eval s = v) (hx : a.eval x = .slice A m c) (hown : OwnI w B .i64 v xs) (hr : RdI w .i64 A ys) (hm : ys.length = m) (hB : B ≤ w.heap.size) (hbytes : (xs.length + m) * 8 ≤ 140737488355328)
    (h : ∀ v' w', OwnI w' B .i64 v' (xs ++ ys) → w.grownBy w' v.ownBlock → Below B w w' → wpList Tryd.prog ops Q rest (a.put o.dst v') w') : wpList Tryd.prog ops Q (o :: rest) a w := by
  obtain ⟨i, hi, hz0, hz1, hz2⟩ := info_parts info_int
  exact wp_app hgd s x 23 3 i (.int .i64 0) .i64 8 ho Tryd.underlying23 hi hz0 hz1 hz2 rfl sp_int hv hx hown hr hm hB hbytes (by omega) h
/-- append(s, make([]byte, m)...). -/
theorem wp_app_u8_zeros {w : World} {ops : Array Oper} {rest : List Oper} {o : Oper} {a : Act} {Q : Exit → Act → World → Prop} (hgd : o.guard = none) (s x : Operand)
    (ho : o.op = .call { callee := .builtin .append, args := #[s, x], argTypes := #[22, 3] })
    {B : Nat} {v : Value} {xs : List Int} {m : Nat} {M : Int} (hv : a.eval s = v) (hx : a.eval x = .int .i64 M) (hM : M = (m : Int)) (hown : OwnI w B .u8 v xs) (h0 : 0 < m) (hB : B ≤ w.heap.size) (hbytes : xs.length + m ≤ 140737488355328)
    (h : ∀ v' w', OwnI w' B .u8 v' (xs ++ List.replicate m 0) → w.grownBy w' v.ownBlock → Below B w w' → wpList Tryd.prog ops Q rest (a.put o.dst v') w') : wpList Tryd.prog ops Q (o :: rest) a w := by
  obtain ⟨i, hi, hz0, hz1, hz2⟩ := info_parts info_u8
  subst hM
  obtain ⟨v', w', hrun, h1, h2, h3⟩ := run_app_zeros (P := Tryd.prog) (w := w) 22 3 o.type 5 i .u8 .i64 .i64 1 Tryd.underlying22 Tryd.underlying3 hi hz0 hz1 hz2 sp_u8 hown h0 hB (by omega) (by omega)
  exact wp_app_run hgd s x _ _ ho hv hx hrun (h v' w' h1 h2 h3)
def I64 (xs : List Int) : Prop := ∀ x ∈ xs, -9223372036854775808 ≤ x ∧ x ≤ 9223372036854775807
theorem I64.nth {xs : List Int} (h : I64 xs) (j : Nat) : -9223372036854775808 ≤ nth xs j ∧ nth xs j ≤ 9223372036854775807 := by
  by_cases hj : j < xs.length
  · exact h _ (nth_mem hj)
  · simp [Go.Proofs.YtbfgoojpbhlboaaDoor.nth, List.getElem?_eq_none (show xs.length ≤ j by omega)]
end Go.Proofs.YtbfgoojpbhlboaaDoor
