/- know.terms and its iterator (layer 3). No condition. -/
import Derived.Test.YtomopjpfdmpgpaaKnow4
import Derived.Test.YtomopjpfdmpgpaaRange
import Derived.Test.YtomopjpfdmpgpaaLook
set_option linter.unusedVariables false
set_option linter.unusedSimpArgs false
namespace Go.Proofs.Ytomopjpfdmpgpaa
open Go Go.RowKit
attribute [local go_sem] Oper.semAt_some

/-- What a term's turn hands over: its number, the term, its parts' slice. -/
abbrev TItem := Int × Nd × Option Addr × Nat
def tEnc (x : TItem) : Array Value := #[.int .i64 x.1, .agg #[.int .i64 x.2.1.kind, .string x.2.1.text, .slice x.2.2.1 x.2.1.parts.length x.2.2.2]]
def tGd (T : List Nd) (k : Nat) (x : TItem) (W : World) : Prop := x.1 = (k : Int) + 1 ∧ T[k]? = some x.2.1 ∧ Rds 0 W .i64 x.2.2.1 x.2.1.parts.length x.2.2.2 x.2.1.parts
/-- What the iterator reads. -/
def tRd (B mb bx : Nat) (tp : Option Addr) (T : List Nd) (W : World) : Prop :=
  (∃ v1 v2 fr, W.heap[mb]? = some (.cells #[.pointer tp, v1, v2, .int .i64 T.length, .bool fr] 119 (0, 0))) ∧ TabAt B W tp T ∧ W.heap[bx]? = some (.cells #[.pointer (some ⟨mb, 0, none⟩)] 93 (0, 0))
set_option maxHeartbeats 800000 in
theorem terms_any (p : Option Addr) (w : World) : Calls Try.prog 88 #[.pointer p] w fun e w' => e = .returned (.func (.func 97) #[] #[.pointer (some ⟨w.heap.size, 0, none⟩)]) ∧ w' = w.alloc (.cells #[.pointer p] 93) := by
  go_enter Try.func88, Try.ntmps88
  go_wp2_with fail
  go_ret
  exact ⟨rfl, rfl⟩
set_option maxHeartbeats 3200000 in
set_option maxRecDepth 100000 in
theorem terms_gives {B mb bx : Nat} {tp : Option Addr} {T : List Nd} (m : Nat) (hT : T.length ≤ 65536) :
    Gives Try.prog 97 #[.pointer (some ⟨bx, 0, none⟩)] tEnc (tGd T) (tRd B mb bx tp T) T.length m := by
  intro l J W hJb hJR hY h0
  refine callsIn_of_wp Try.func97 rfl trivial ?_ rfl
  simp only [Try.ntmps97, List.size_toArray, List.length_cons, List.length_nil, Nat.reduceAdd, Nat.reduceSub, Array.replicate_succ, Array.replicate_zero, List.push_toArray, List.append_toArray, List.nil_append, List.cons_append]
  have HY := Lib.hid hY
  have HJb := Lib.hid hJb
  have HJR := Lib.hid hJR
  clear hY hJb hJR
  gi_wp2
  gi_loopw [3] (fun i wr => ∃ k : Nat, k ≤ T.length ∧ i = .int .i64 ((k : Int) + 1) ∧ J k wr) (fun i wr => T.length + 1 - (intOf i).toNat)
  case atStart => exact ⟨0, Nat.zero_le _, rfl, h0⟩
  case round =>
    obtain ⟨k, hk, rfl, hJ⟩ := hrel
    have HJ := Lib.hid hJ
    obtain ⟨⟨v1, v2, fr, hm⟩, ht, hb⟩ := HJR.out k wr hJ
    have m0 : wr.cell? ⟨mb, 0, none⟩ = some (.pointer tp) := by rw [cell_of_row wr _ 0 _ _ _ hm]; rfl
    have m3 : wr.cell? ⟨mb, 3, none⟩ = some (.int .i64 T.length) := by rw [cell_of_row wr _ 3 _ _ _ hm]; rfl
    have b0 : wr.cell? ⟨bx, 0, none⟩ = some (.pointer (some ⟨mb, 0, none⟩)) := by rw [cell_of_row wr _ 0 _ _ _ hb]; rfl
    clear hJ hm hb
    by_cases hlt : k < T.length
    · rcases ht with ⟨-, rfl⟩ | ⟨tb, rfl, ht⟩
      · simp at hlt
      obtain ⟨nd, hnd⟩ : ∃ nd, T[k]? = some nd := ⟨_, List.getElem?_eq_getElem hlt⟩
      have hle : (k : Int) + 1 ≤ (T.length : Int) := by omega
      have key := look_node ((k : Int) + 1) nd wr ht (by rw [getT_nat]; exact hnd)
      have HND := Lib.hid hnd
      clear ht hnd
      gi_wp2_with (refine ⟨trivial, ?_⟩; gi_at_call 57; refine (callsIn_wide.2 key).mono ?_; clear key; rintro e w1 ⟨A1, c1, rfl, ho, hb⟩)
      obtain ⟨W1, hW1⟩ : ∃ W1, W1 = w1.alloc (.cells #[.int .i64 nd.kind, .string nd.text, .slice A1 nd.parts.length c1] 85) := ⟨_, rfl⟩
      have hb1 : Below w1.heap.size w1 W1 := by rw [hW1]; exact below_new _
      have hJ1 := HJb.out k wr W1 HJ.out (below_next hb hb.size hb1)
      obtain ⟨fn, tmps, assign, body, hy, hR⟩ := HY.out k ((k : Int) + 1, nd, A1, c1) W1 hJ1 hlt ⟨rfl, HND.out, (ho.rds (B' := 0)).below hb1⟩
      simp only [tEnc] at hy
      rw [hW1] at hy hR
      clear ho hb hb1 hJ1 hW1
      rw [hy]
      gi_wp2
      refine hR.mono ?_
      rintro e W3 ⟨rfl, hJ3⟩
      have HJ3 := Lib.hid hJ3
      clear hJ3 hR hy
      gi_wp2
      go_roundw
      case rel => exact ⟨k + 1, by omega, by go_num, HJ3.out⟩
      case measure => simp [intOf]; omega
    · obtain rfl : k = T.length := by omega
      gi_wp2
      go_end0
      exact ⟨⟨_, rfl⟩, HJ.out⟩
end Go.Proofs.Ytomopjpfdmpgpaa
