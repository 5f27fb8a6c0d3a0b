/- What New, Size, Secret, Text, Clone and Look do. No condition. -/
import Derived.Test.YtmaedahleenlgaaAdd
import Derived.Test.YtmaedahleenlgaaPureIdeal
set_option linter.unusedVariables false
set_option linter.unusedSimpArgs false
namespace Go.Proofs.Ytmaedahleenlgaa
open Go Go.RowKit Go.WideMaps

/-- A call on a table: its answer, the table behind it, what turned. -/
def TabPost (B tb : Nat) (w : World) (r : List Nd × Int) (e : Ending) (w' : World) : Prop := e = .returned (.int .i64 r.2) ∧ IsTab B w' tb r.1 ∧ Frm tabO B w w'
theorem tabPost_same {B tb : Nat} {w w' : World} {T : List Nd} {h : Int} (ht : IsTab B w tb T) (hb : Below w.heap.size w w') : TabPost B tb w (T, h) (.returned (.int .i64 h)) w' := ⟨rfl, ht.below hb, .of_below hb⟩

def NewPost (w : World) (e : Ending) (w' : World) : Prop := ∃ tb, e = .returned (.pointer (some ⟨tb, 0, none⟩)) ∧ IsTab w.heap.size w' tb [] ∧ Below w.heap.size w w'
set_option maxHeartbeats 800000 in
theorem new_any (w : World) : Calls Try.prog 10 #[] w (NewPost w) := by
  have hmm := @run_makeMap Try.prog
  go_enter Try.func10, Try.ntmps10
  go_wp2_with fail
  go_ret
  have h1 : ((w.alloc (.map #[] 0)).alloc (.cells #[.slice none 0 0, .map (some w.heap.size)] 61)).heap[w.heap.size + 1]? = some (.cells #[.slice none 0 0, .map (some w.heap.size)] 61 (0, 0)) := heap_alloc2_new w _ _
  have h2 : ((w.alloc (.map #[] 0)).alloc (.cells #[.slice none 0 0, .map (some w.heap.size)] 61)).heap[w.heap.size]? = some (.map #[] 0) := heap_alloc2_old w _ _
  refine ⟨w.heap.size + 1, rfl, ⟨wfT_nil, by omega, _, w.heap.size, _, _, [], h1, Nat.le_refl _, h2, mapOk_nil, World.ownsRow_nil _ _ _ _, ⟨fun i n h => by simp at h, fun i n h => by simp at h, fun i n h => by simp at h⟩, fun _ => rfl⟩, ?_⟩
  exact ((Below.refl _ _).alloc (Nat.le_refl _) _).alloc (by simp) _

set_option maxHeartbeats 800000 in
theorem size_any {B tb : Nat} {T : List Nd} (w : World) (ht : IsTab B w tb T) : Calls Try.prog 20 #[.pointer (some ⟨tb, 0, none⟩)] w fun e w' => e = .returned (.int .i64 T.length) ∧ w = w' := by
  obtain ⟨hw, hB, v, mb, es, clock, cs, h1, hmb, h3, hm, hown, hcs⟩ := ht
  obtain ⟨A, cA, rfl⟩ := owned_slice hown
  have c0 : w.cell? ⟨tb, 0, none⟩ = some (.slice A T.length cA) := by rw [cell_of_row w tb 0 _ _ _ h1]; rfl
  have H1 := Lib.hid h1
  have H3 := Lib.hid h3
  clear h1 h3 hown hcs hm hw
  go_enter Try.func20, Try.ntmps20
  go_wp2
  go_ret
  exact ⟨rfl, rfl⟩

theorem good_secret (T : List Nd) : GoodN T.length T ⟨2, ByteArray.empty, []⟩ :=
  ⟨by simp, by decide, by simp, fun p hp => by simp at hp, fun h => rfl, fun _ => ⟨rfl, rfl⟩, fun _ => rfl, fun h => by simp at h, fun h => by simp at h, fun h => by simp at h, fun h => by simp at h, fun h => by simp at h, fun h => by simp at h⟩
theorem good_text (T : List Nd) {b : ByteArray} (h : b.size ≤ 2048) : GoodN T.length T ⟨1, b, []⟩ :=
  ⟨by simp, h, by simp, fun p hp => by simp at hp, fun h => rfl, fun h => by simp at h, fun h => by simp at h, fun h => by simp at h, fun h => by simp at h, fun h => by simp at h, fun h => by simp at h, fun h => by simp at h, fun h => by simp at h⟩

set_option maxHeartbeats 800000 in
theorem secret_any {B tb : Nat} {T : List Nd} (w : World) (ht : IsTab B w tb T) : Calls Try.prog 27 #[.pointer (some ⟨tb, 0, none⟩)] w (TabPost B tb w (secretT T)) := by
  have HT := Lib.hid ht; clear ht
  go_enter Try.func27, Try.ntmps27
  go_wp2_with fail
  refine (add_any (T := T) 2 _ none 0 0 [] w HT.out (good_secret T) (Rds.nil _ _ _)).mono ?_
  rintro e w1 ⟨rfl, ht1, hf1⟩
  have HT1 := Lib.hid ht1
  have HF1 := Lib.hid hf1
  clear ht1 hf1
  go_wp2_with fail
  go_ret
  exact ⟨rfl, HT1.out, HF1.out⟩

theorem run_bytes_string {B' : Nat} {A : Option Addr} {n c : Nat} {xs : List Int} {w : World} (hr : Rds B' w .u8 A n c xs) : (convert 65 9 (.slice A n c)).run Try.prog w = .ok (.string (strOfNums xs)) w := by
  have hl := hr.len
  by_cases h0 : n = 0
  · subst h0
    have : xs = [] := List.eq_nil_of_length_eq_zero hl
    subst this
    cases A with
    | none => exact run_convert_bytes_nil w 65 5 Try.underlying65 Try.underlying5 0 c 9 Try.underlying9
    | some a =>
      rw [run_convert_bytes_string w 65 9 5 _ 0 c Try.underlying65 Try.underlying5 Try.underlying9]
      simp [Conv.bytesToString, loadCells, loadCellsFrom, strOfNums]
      rfl
  · obtain ⟨b, o, rfl, hc⟩ := hr.cell.at_ (by omega)
    exact run_convert_bytes_arg w 65 5 Try.underlying65 Try.underlying5 b o n c xs hl (fun i hi => hc i (by omega)) 9 Try.underlying9

set_option maxHeartbeats 800000 in
set_option maxRecDepth 100000 in
theorem text_any {B B' tb : Nat} {T : List Nd} (A : Option Addr) (n c : Nat) (xs : List Int) (w : World) (ht : IsTab B w tb T) (hr : Rds B' w .u8 A n c xs) : Calls Try.prog 25 #[.pointer (some ⟨tb, 0, none⟩), .slice A n c] w (TabPost B tb w (textT T (strOfNums xs))) := by
  have HT := Lib.hid ht; clear ht
  have hl := Lib.hid hr.len
  have hsz : Hid ((strOfNums xs).size = n) := by show _ = _; rw [strOfNums_size, hr.len]
  by_cases hn : 2048 < n
  · have HR := Lib.hid hr; clear hr
    go_enter Try.func25, Try.ntmps25
    go_wp2_with fail
    go_ret
    unfold textT
    rw [if_neg (by rw [hsz.out]; omega)]
    exact tabPost_same HT.out (Below.refl _ _)
  have hconv := Lib.hid (run_bytes_string (A := A) (c := c) hr)
  have HR := Lib.hid hr; clear hr
  go_enter Try.func25, Try.ntmps25
  go_wp2_with ((with_reducible show wpList _ _ _ (Oper.mk _ (Op.convert 65 9 _) _ _ _ _ :: _) _ _); refine wp_convert rfl _ _ _ rfl rfl hconv.out ?_)
  refine (add_any (T := T) 1 (strOfNums xs) none 0 0 [] w HT.out (good_text T (by rw [hsz.out]; omega)) (Rds.nil _ _ _)).mono ?_
  rintro e w1 ⟨rfl, ht1, hf1⟩
  have HT1 := Lib.hid ht1
  have HF1 := Lib.hid hf1
  clear ht1 hf1
  go_wp2_with fail
  go_ret
  unfold textT
  rw [if_pos (by rw [hsz.out]; omega)]
  exact ⟨rfl, HT1.out, HF1.out⟩
end Go.Proofs.Ytmaedahleenlgaa
