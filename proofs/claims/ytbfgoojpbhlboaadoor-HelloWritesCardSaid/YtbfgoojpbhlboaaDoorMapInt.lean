/- Maps with whole numbers as keys: what a look-up answers, what a writing leaves. No condition. -/
import Derived.MapKept
import Derived.Test.YtbfgoojpbhlboaaDoorCut
set_option linter.unusedVariables false
set_option linter.unusedSimpArgs false
namespace Go.Proofs.YtbfgoojpbhlboaaDoor
open Go Go.RowKit Go.MapKept

def IntKeys (es : Array MapEntry) : Prop := ∀ e ∈ es.toList, ∃ x : Int, e.key = .int .i64 x
theorem IntKeys.nil : IntKeys #[] := fun e h => by simp at h
theorem IntKeys.push {es : Array MapEntry} (h : IntKeys es) (n : Int) (v : Value) (c : Nat) : IntKeys (es.push ⟨.int .i64 n, v, c⟩) := fun e he => by
  simp only [Array.toList_push, List.mem_append, List.mem_singleton] at he
  rcases he with he | rfl
  · exact h e he
  · exact ⟨n, rfl⟩
theorem IntKeys.isKey {es : Array MapEntry} (h : IntKeys es) : ∀ e ∈ es.toList, IsKey (.int .i64) e.key := fun e he => by
  obtain ⟨x, hx⟩ := h e he
  rw [hx]
  rfl
theorem run_look_none {P : Program} {w : World} {tm kt et : TypeId} {mb : Nat} {es : Array MapEntry} {clock : Nat} {z : Value} (hm : P.underlying tm = some (.map kt et)) (hk : P.underlying kt = some (.int .i64)) (hz : (zeroValue et).run P w = .ok z w)
    (hb : w.heap[mb]? = some (.map es clock)) (hks : IntKeys es) {n : Int} (hno : ∀ e ∈ es.toList, e.key ≠ .int .i64 n) :
    (Instr.lookup tm (.map (some mb)) (.int .i64 n) false).run P w = .ok z w := by
  rcases findNow_spec (d := .int .i64) (k := .int .i64 n) rfl es.toList 0 hks.isKey with ⟨h1, h2⟩ | ⟨j, e0, h1, h2, h3⟩
  · simp [Instr.lookup, run_underlying hm, MapKept.run_getObj_map hb, run_checkKey hk (d := .int .i64) (k := .int .i64 n) rfl _ 9999, run_findKey hk h1, hz, Result.andThen]
  · exact absurd h3 (hno e0 (List.mem_of_getElem? h2))
theorem run_look_some {P : Program} {w : World} {tm kt et : TypeId} {mb : Nat} {es : Array MapEntry} {clock : Nat} {v : Value} (hm : P.underlying tm = some (.map kt et)) (hk : P.underlying kt = some (.int .i64))
    (hb : w.heap[mb]? = some (.map es clock)) (hks : IntKeys es) {n : Int} (hv : ∀ e ∈ es.toList, e.key = .int .i64 n → e.val = v) (hex : ∃ e ∈ es.toList, e.key = .int .i64 n) :
    (Instr.lookup tm (.map (some mb)) (.int .i64 n) false).run P w = .ok v w := by
  obtain ⟨e1, he1, hk1⟩ := hex
  rcases findNow_spec (d := .int .i64) (k := .int .i64 n) rfl es.toList 0 hks.isKey with ⟨h1, h2⟩ | ⟨j, e0, h1, h2, h3⟩
  · exact absurd hk1 (h2 e1 he1)
  · have e := hv e0 (List.mem_of_getElem? h2) h3
    simp [Instr.lookup, run_underlying hm, MapKept.run_getObj_map hb, run_checkKey hk (d := .int .i64) (k := .int .i64 n) rfl _ 9999, run_findKey hk h1, e, Result.andThen]
theorem run_put_int {P : Program} {w : World} {tm kt et : TypeId} {mb : Nat} {es : Array MapEntry} {clock : Nat} (hm : P.underlying tm = some (.map kt et)) (hk : P.underlying kt = some (.int .i64))
    (hb : w.heap[mb]? = some (.map es clock)) (hks : IntKeys es) {n : Int} (hno : ∀ e ∈ es.toList, e.key ≠ .int .i64 n) (v : Value) :
    (Instr.mapUpdate tm (.map (some mb)) (.int .i64 n) v).run P w = .ok () (ChangeMaps.setBlock w mb (.map (es.push ⟨.int .i64 n, v, clock⟩) (clock + 1))) := by
  rcases findNow_spec (d := .int .i64) (k := .int .i64 n) rfl es.toList 0 hks.isKey with ⟨h1, h2⟩ | ⟨j, e0, h1, h2, h3⟩
  · simp [Instr.mapUpdate, run_underlying hm, MapKept.run_getObj_map hb, run_checkKey hk (d := .int .i64) (k := .int .i64 n) rfl _ 9999, run_findKey hk h1, MapKept.run_setObj_map _ hb, Result.andThen, ChangeMaps.setBlock]
  · exact absurd h3 (hno e0 (List.mem_of_getElem? h2))
theorem setBlock_at {w : World} {b : Nat} {o : Obj} (h : b < w.heap.size) : (ChangeMaps.setBlock w b o).heap[b]? = some o := by simp [ChangeMaps.setBlock, h]
theorem setBlock_off {w : World} {b k : Nat} {o : Obj} (h : k ≠ b) : (ChangeMaps.setBlock w b o).heap[k]? = w.heap[k]? := by
  simp only [ChangeMaps.setBlock]
  rw [Array.getElem?_setIfInBounds_ne (Ne.symm h)]
theorem setBlock_size (w : World) (b : Nat) (o : Obj) : (ChangeMaps.setBlock w b o).heap.size = w.heap.size := by simp [ChangeMaps.setBlock]
theorem wp_put_int {P : Program} {w : World} {ops : Array Oper} {rest : List Oper} {o : Oper} {a : Act} {Q : Exit → Act → World → Prop} {tm kt et : TypeId} (hgd : o.guard = none) (hdst : o.dst = none) (x y z : Operand) (ho : o.op = .mapUpdate tm x y z ∨ o.op = .insert tm x y z)
    (hm : P.underlying tm = some (.map kt et)) (hk : P.underlying kt = some (.int .i64)) {mb : Nat} {es : Array MapEntry} {clock : Nat} {n : Int} {v : Value} (hx : a.eval x = .map (some mb)) (hy : a.eval y = .int .i64 n) (hz : a.eval z = v) (hb : w.heap[mb]? = some (.map es clock)) (hks : IntKeys es) (hno : ∀ e ∈ es.toList, e.key ≠ .int .i64 n)
    (h : wpList P ops Q rest a (ChangeMaps.setBlock w mb (.map (es.push ⟨.int .i64 n, v, clock⟩) (clock + 1)))) : wpList P ops Q (o :: rest) a w := by
  refine wp_op_skip hgd ?_ (by rw [hdst]; exact h)
  unfold execOp
  rcases ho with ho | ho <;> simp only [ho, hx, hy, hz, Sem.run_bind, run_put_int hm hk hb hks hno, Result.andThen_ok, Sem.run_pure]
end Go.Proofs.YtbfgoojpbhlboaaDoor
