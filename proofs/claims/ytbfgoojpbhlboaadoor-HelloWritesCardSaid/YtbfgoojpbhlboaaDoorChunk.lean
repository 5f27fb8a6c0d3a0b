/- slices.Chunk at bytes and its iterator. No condition. -/
import Derived.Test.YtbfgoojpbhlboaaDoorRangeRet
import Derived.Test.YtbfgoojpbhlboaaDoorCut
import Derived.Test.YtbfgoojpbhlboaaDoorCutL
set_option linter.unusedVariables false
set_option linter.unusedSimpArgs false
namespace Go.Proofs.YtbfgoojpbhlboaaDoor
open Go Go.RowKit
attribute [local go_sem] Oper.semAt_some

def cEnc (x : Option Addr) : Array Value := #[.slice x 4 4]
def cGd (B : Nat) (A : Option Addr) (rs : List Int) (k : Nat) (x : Option Addr) (W : World) : Prop := Rds B W .u8 x 4 4 (cutL rs (4 * k) 4) ∧ x = A.map (·.add (4 * k))
def cRd (B s0 s1 : Nat) (A : Option Addr) (n c : Nat) (rs : List Int) (W : World) : Prop :=
  W.heap[s0]? = some (.cells #[.slice A n c] 22 (0, 0)) ∧ W.heap[s1]? = some (.cells #[.int .i64 4] 3 (0, 0)) ∧ Rds B W .u8 A n c rs
set_option maxHeartbeats 800000 in
theorem chunk_any (A : Option Addr) (n c : Nat) (w : World) : Calls Tryd.prog 129 #[.slice A n c, .int .i64 4] w fun e w' => e = .returned (.func (.func 132) #[] #[.pointer (some ⟨w.heap.size, 0, none⟩), .pointer (some ⟨w.heap.size + 1, 0, none⟩)]) ∧ w' = (w.alloc (.cells #[.slice A n c] 22)).alloc (.cells #[.int .i64 4] 3) := by
  go_enter Tryd.func129, Tryd.ntmps129
  go_wp2_with fail
  go_ret
  exact ⟨rfl, rfl⟩
set_option maxHeartbeats 3200000 in
set_option maxRecDepth 100000 in
theorem chunk_gives {B s0 s1 n c N : Nat} {A : Option Addr} {rs : List Int} (m : Nat) (hN : 4 * N = n) (hn : n ≤ 1000000) :
    GivesR Tryd.prog 132 #[.pointer (some ⟨s0, 0, none⟩), .pointer (some ⟨s1, 0, none⟩)] cEnc (cGd B A rs) (cRd B s0 s1 A n c rs) N m := by
  intro l J Jx W hJb hJxb hJR hY h0
  refine callsIn_of_wp Tryd.func132 rfl trivial ?_ rfl
  simp only [Tryd.ntmps132, List.size_toArray, List.length_cons, List.length_nil, Nat.reduceAdd, Nat.reduceSub, Array.replicate_succ, Array.replicate_zero, List.push_toArray, List.append_toArray, List.nil_append, List.cons_append]
  have HY := Lib.hid hY
  have HJb := Lib.hid hJb
  have HJR := Lib.hid hJR
  have HN4 : Hid (4 * N = n) := hN
  clear hY hJb hJR hJxb
  gi_wp2
  gi_loopw [4] (fun i wr => ∃ k : Nat, k ≤ N ∧ i = .int .i64 (4 * (k : Int)) ∧ J k wr) (fun i wr => n - (intOf i).toNat)
  case atStart => exact ⟨0, Nat.zero_le _, rfl, h0⟩
  case round =>
    obtain ⟨k, hk, rfl, hJ⟩ := hrel
    have HJ := Lib.hid hJ
    obtain ⟨hs0, hs1, hr⟩ := HJR.out k wr hJ
    have b0 : wr.cell? ⟨s0, 0, none⟩ = some (.slice A n c) := by rw [cell_of_row wr _ 0 _ _ _ hs0]; rfl
    have b1 : wr.cell? ⟨s1, 0, none⟩ = some (.int .i64 4) := by rw [cell_of_row wr _ 0 _ _ _ hs1]; rfl
    have HR := Lib.hid hr
    have hcap := hr.cap
    have hmax := hr.max
    clear hJ hs0 hs1 hr
    by_cases hlt : k < N
    · obtain ⟨b, o, rfl, hcx⟩ := RdI.at_ HR.out.cell (by have := HR.out.len; omega)
      clear hcx
      have hc : ¬ c = 4 * k := by omega
      have hkn : 4 * k + 4 ≤ n := by omega
      have hki : (4 * (k : Int)) < (n : Int) := by omega
      have hk0 : (0 : Int) ≤ 4 * (k : Int) := by omega
      have hkn' : 4 * (k : Int) ≤ (n : Int) := by omega
      have hmin : (4 : Int) ≤ ((n - 4 * k : Nat) : Int) := by omega
      have htn : (4 * (k : Int)).toNat = 4 * k := by omega
      gi_wp2
      gi_region
      have hJ1 := HJb.out k wr wr.drew HJ.out ((Below.refl _ _).drew)
      have hx : Rds B wr.drew .u8 (some ⟨b, o + 4 * k, none⟩) 4 4 (cutL rs (4 * k) 4) := by
        have h1 := (HR.out.below ((Below.refl _ _).drew)).cut2 (l := 4 * k) (m := 4 * k + 4) (by omega) (by omega)
        rw [show cutA (some ⟨b, o, none⟩) (4 * k) c = some ⟨b, o + 4 * k, none⟩ from by unfold cutA; rw [if_neg hc, Nat.mul_one]; simp [Addr.add], Nat.add_sub_cancel_left] at h1
        exact ⟨h1.len, Nat.le_refl 4, by decide, h1.cell, h1.safe⟩
      obtain ⟨fn, tmps, assign, body, hy, hR⟩ := HY.out k (some ⟨b, o + 4 * k, none⟩) wr.drew hJ1 hlt ⟨hx, by simp [Addr.add]⟩
      simp only [cEnc] at hy
      have d0 : wr.drew.cell? ⟨s0, 0, none⟩ = some (.slice (some ⟨b, o, none⟩) n c) := b0
      have d1 : wr.drew.cell? ⟨s1, 0, none⟩ = some (.int .i64 4) := b1
      have hk4 : 4 * (k : Int) + 4 ≤ (c : Int) := by omega
      clear hx hJ1
      gi_wp2
      refine hR.mono ?_
      rintro e W3 (⟨rfl, hJ3⟩ | ⟨rfl, hJ3⟩)
      · obtain ⟨hs0, hs1, -⟩ := HJR.out (k + 1) W3 hJ3
        have e1 : W3.cell? ⟨s1, 0, none⟩ = some (.int .i64 4) := by rw [cell_of_row W3 _ 0 _ _ _ hs1]; rfl
        have HJ3 := Lib.hid hJ3
        clear hJ3 hR hy hs0 hs1 b0 b1 d0 d1
        gi_wp2
        go_roundw
        case rel => exact ⟨k + 1, by omega, by go_num, HJ3.out⟩
        case measure => simp [intOf]; omega
      · have HJ3 := Lib.hid hJ3
        clear hJ3 hR hy b0 b1 d0 d1
        gi_wp2
        (try simp only [Exit.inBlock, Exit.then])
        refine bodyPost_ret (results_none rfl _ _ _) rfl ?_
        exact ⟨⟨_, rfl⟩, .inr HJ3.out⟩
    · obtain rfl : k = N := by omega
      gi_wp2
      go_end0
      exact ⟨⟨_, rfl⟩, .inl HJ.out⟩
theorem lp8_sp : ∀ o, lpO o = true → spO o = true := by
  intro o h
  unfold lpO at h
  split at h <;> first | rfl | cases h
theorem rds8_lp {B : Nat} {w w' : World} {k : IntKind} {A : Option Addr} {n c : Nat} {xs : List Int} (h : Rds B w k A n c xs) {B' : Nat} (hf : Frm lpO B' w w') (hB : B ≤ B') : Rds B w' k A n c xs := h.frm ((hf.weak hB).mono lp8_sp)
theorem cells8_lp {w w' : World} {B g : Nat} {cs : Array Value} {t : TypeId} {fr : Nat × Nat} (h : w.heap[g]? = some (.cells cs t fr)) (hf : Frm lpO B w w') : w'.heap[g]? = some (.cells cs t fr) := hf.block _ _ h (.inr rfl)
def Keep8 (W W' : World) : Prop := ∀ (k : Nat) (o : Obj), W.heap[k]? = some o → lpO o = true → W'.heap[k]? = some o
theorem Keep8.trans {a b c : World} (h : Keep8 a b) (k : Keep8 b c) : Keep8 a c := fun i o hi hl => k i o (h i o hi hl) hl
theorem Keep8.of_below {a b : World} (h : Below a.heap.size a b) : Keep8 a b := fun i o hi _ => (h.block i (lt_of_get hi)).trans hi
/-- append within a fence, by its run. -/
theorem wpIn_app_run8 {F : Fence} {n : Nat} {P : Program} {w w' : World} {ops : Array Oper} {rest : List Oper} {o : Oper} {a : Act} {Q : Exit → Act → World → Prop} (hg : o.guard = none) (s x : Operand) (t : Nat)
    (ho : o.op = .call { callee := .builtin .append, args := #[s, x], argTypes := #[t, t] }) {v v' : Value} {A : Option Addr} {m c : Nat} (hv : a.eval s = v) (hx : a.eval x = .slice A m c) (hrun : (Builtin.append_ #[t, t] o.type #[v, .slice A m c]).run P w = .ok v' w')
    (h : wpListIn F n P ops Q rest (a.put o.dst v') w') : wpListIn F n P ops Q (o :: rest) a w := by
  refine wpListIn_plain hg fun K hK' => ?_
  unfold Oper.wpIn
  refine ⟨?_, ?_⟩
  · simp [Oper.about, ho, resolve, Target.leads, Sem.run_pure]
  · rw [Oper.semAt_plain F _ _ (by rw [ho]; intro c hc'; cases hc')]
    simp [execOp, ho, resolve, invoke, builtin, hv, hx, hrun, Result.andThen]
    exact hK' _ _ h
end Go.Proofs.YtbfgoojpbhlboaaDoor
