/- Own texts, one behind the other. Each bears its own remark. -/
import Derived.Test.YtomopjpfdmpgpaaAdd
import Derived.Test.YtomopjpfdmpgpaaPureIdeal
/- What New, Size, Secret, Text, Clone and Look do. No condition. -/
set_option linter.unusedVariables false
set_option linter.unusedSimpArgs false
namespace Go.Proofs.Ytomopjpfdmpgpaa
open Go Go.RowKit Go.WideMaps

/-- A call on a table: its answer, the table behind it, what turned. -/
def TabPost (B tb : Nat) (w : World) (r : List Nd × Int) (e : Ending) (w' : World) : Prop := e = .returned (.int .i64 r.2) ∧ IsTab B w' tb r.1 ∧ Frm tabO B w w'
theorem tabPost_same {B tb : Nat} {w w' : World} {T : List Nd} {h : Int} (ht : IsTab B w tb T) (hb : Below w.heap.size w w') : TabPost B tb w (T, h) (.returned (.int .i64 h)) w' := ⟨rfl, ht.below hb, .of_below hb⟩

def NewPost (w : World) (e : Ending) (w' : World) : Prop := ∃ tb, e = .returned (.pointer (some ⟨tb, 0, none⟩)) ∧ IsTab w.heap.size w' tb [] ∧ Below w.heap.size w w'
set_option maxHeartbeats 800000 in
theorem new_any (w : World) : Calls Try.prog 17 #[] w (NewPost w) := by
  have hmm := @run_makeMap Try.prog
  go_enter Try.func17, Try.ntmps17
  go_wp2_with fail
  go_ret
  have h1 : ((w.alloc (.map #[] 0)).alloc (.cells #[.slice none 0 0, .map (some w.heap.size)] 81)).heap[w.heap.size + 1]? = some (.cells #[.slice none 0 0, .map (some w.heap.size)] 81 (0, 0)) := heap_alloc2_new w _ _
  have h2 : ((w.alloc (.map #[] 0)).alloc (.cells #[.slice none 0 0, .map (some w.heap.size)] 81)).heap[w.heap.size]? = some (.map #[] 0) := heap_alloc2_old w _ _
  refine ⟨w.heap.size + 1, rfl, ⟨wfT_nil, by omega, _, w.heap.size, _, _, [], h1, Nat.le_refl _, h2, mapOk_nil, World.ownsRow_nil _ _ _ _, ⟨fun i n h => by simp at h, fun i n h => by simp at h, fun i n h => by simp at h⟩, fun _ => rfl⟩, ?_⟩
  exact ((Below.refl _ _).alloc (Nat.le_refl _) _).alloc (by simp) _

set_option maxHeartbeats 800000 in
theorem size_any {B tb : Nat} {T : List Nd} (w : World) (ht : IsTab B w tb T) : Calls Try.prog 85 #[.pointer (some ⟨tb, 0, none⟩)] w fun e w' => e = .returned (.int .i64 T.length) ∧ w = w' := by
  obtain ⟨hw, hB, v, mb, es, clock, cs, h1, hmb, h3, hm, hown, hcs⟩ := ht
  obtain ⟨A, cA, rfl⟩ := owned_slice hown
  have c0 : w.cell? ⟨tb, 0, none⟩ = some (.slice A T.length cA) := by rw [cell_of_row w tb 0 _ _ _ h1]; rfl
  have H1 := Lib.hid h1
  have H3 := Lib.hid h3
  clear h1 h3 hown hcs hm hw
  go_enter Try.func85, Try.ntmps85
  go_wp2
  go_ret
  exact ⟨rfl, rfl⟩

theorem good_secret (T : List Nd) : GoodN T.length T ⟨2, ByteArray.empty, []⟩ :=
  ⟨by simp, by decide, by simp, fun p hp => by simp at hp, fun h => rfl, fun _ => ⟨rfl, rfl⟩, fun _ => rfl, fun h => by simp at h, fun h => by simp at h, fun h => by simp at h, fun h => by simp at h, fun h => by simp at h, fun h => by simp at h⟩
theorem good_text (T : List Nd) {b : ByteArray} (h : b.size ≤ 2048) : GoodN T.length T ⟨1, b, []⟩ :=
  ⟨by simp, h, by simp, fun p hp => by simp at hp, fun h => rfl, fun h => by simp at h, fun h => by simp at h, fun h => by simp at h, fun h => by simp at h, fun h => by simp at h, fun h => by simp at h, fun h => by simp at h, fun h => by simp at h⟩

set_option maxHeartbeats 800000 in
theorem secret_any {B tb : Nat} {T : List Nd} (w : World) (ht : IsTab B w tb T) : Calls Try.prog 20 #[.pointer (some ⟨tb, 0, none⟩)] w (TabPost B tb w (secretT T)) := by
  have HT := Lib.hid ht; clear ht
  go_enter Try.func20, Try.ntmps20
  go_wp2_with fail
  refine (add_any (T := T) 2 _ none 0 0 [] w HT.out (good_secret T) (Rds.nil _ _ _)).mono ?_
  rintro e w1 ⟨rfl, ht1, hf1⟩
  have HT1 := Lib.hid ht1
  have HF1 := Lib.hid hf1
  clear ht1 hf1
  go_wp2_with fail
  go_ret
  exact ⟨rfl, HT1.out, HF1.out⟩

theorem run_bytes_string {B' : Nat} {A : Option Addr} {n c : Nat} {xs : List Int} {w : World} (hr : Rds B' w .u8 A n c xs) : (convert 22 9 (.slice A n c)).run Try.prog w = .ok (.string (strOfNums xs)) w := by
  have hl := hr.len
  by_cases h0 : n = 0
  · subst h0
    have : xs = [] := List.eq_nil_of_length_eq_zero hl
    subst this
    cases A with
    | none => exact run_convert_bytes_nil w 22 5 Try.underlying22 Try.underlying5 0 c 9 Try.underlying9
    | some a =>
      rw [run_convert_bytes_string w 22 9 5 _ 0 c Try.underlying22 Try.underlying5 Try.underlying9]
      simp [Conv.bytesToString, loadCells, loadCellsFrom, strOfNums]
      rfl
  · obtain ⟨b, o, rfl, hc⟩ := hr.cell.at_ (by omega)
    exact run_convert_bytes_arg w 22 5 Try.underlying22 Try.underlying5 b o n c xs hl (fun i hi => hc i (by omega)) 9 Try.underlying9

set_option maxHeartbeats 800000 in
set_option maxRecDepth 100000 in
theorem text_any {B B' tb : Nat} {T : List Nd} (A : Option Addr) (n c : Nat) (xs : List Int) (w : World) (ht : IsTab B w tb T) (hr : Rds B' w .u8 A n c xs) : Calls Try.prog 45 #[.pointer (some ⟨tb, 0, none⟩), .slice A n c] w (TabPost B tb w (textT T (strOfNums xs))) := by
  have HT := Lib.hid ht; clear ht
  have hl := Lib.hid hr.len
  have hsz : Hid ((strOfNums xs).size = n) := by show _ = _; rw [strOfNums_size, hr.len]
  by_cases hn : 2048 < n
  · have HR := Lib.hid hr; clear hr
    go_enter Try.func45, Try.ntmps45
    go_wp2_with fail
    go_ret
    unfold textT
    rw [if_neg (by rw [hsz.out]; omega)]
    exact tabPost_same HT.out (Below.refl _ _)
  have hconv := Lib.hid (run_bytes_string (A := A) (c := c) hr)
  have HR := Lib.hid hr; clear hr
  go_enter Try.func45, Try.ntmps45
  go_wp2_with ((with_reducible show wpList _ _ _ (Oper.mk _ (Op.convert 22 9 _) _ _ _ _ :: _) _ _); refine wp_convert rfl _ _ _ rfl rfl hconv.out ?_)
  refine (add_any (T := T) 1 (strOfNums xs) none 0 0 [] w HT.out (good_text T (by rw [hsz.out]; omega)) (Rds.nil _ _ _)).mono ?_
  rintro e w1 ⟨rfl, ht1, hf1⟩
  have HT1 := Lib.hid ht1
  have HF1 := Lib.hid hf1
  clear ht1 hf1
  go_wp2_with fail
  go_ret
  unfold textT
  rw [if_pos (by rw [hsz.out]; omega)]
  exact ⟨rfl, HT1.out, HF1.out⟩
end Go.Proofs.Ytomopjpfdmpgpaa

/- What Clone, Look, kinds, Contains and formed do. No condition. -/
set_option linter.unusedVariables false
set_option linter.unusedSimpArgs false
namespace Go.Proofs.Ytomopjpfdmpgpaa
open Go Go.RowKit Go.WideMaps

def ClonePost (xs : List Int) (w : World) (e : Ending) (w' : World) : Prop := ∃ v, e = .returned v ∧ OwnI w' w.heap.size .i64 v xs ∧ Below w.heap.size w w'
set_option maxHeartbeats 800000 in
set_option maxRecDepth 100000 in
theorem clone_any {B : Nat} (A : Option Addr) (n c : Nat) (xs : List Int) (w : World) (hr : Rds B w .i64 A n c xs) (hn : n ≤ 1000000) : Calls Try.prog 50 #[.slice A n c] w (ClonePost xs w) := by
  have hl := Lib.hid hr.len
  cases A with
  | none =>
    have h0 : n = 0 := by
      rcases Nat.eq_zero_or_pos n with h | h
      · exact h
      · obtain ⟨ad, e, _⟩ := hr.cell 0 (by have := hr.len; omega)
        cases e
    subst h0
    have hx : xs = [] := List.eq_nil_of_length_eq_zero hl.out
    subst hx
    have he := Lib.run_eql_slice_nil (P := Try.prog) w 57 32 none 0 c 0 0 Try.underlying57
    clear hr
    go_enter Try.func50, Try.ntmps50
    go_wp2_with fail
    go_ret
    exact ⟨_, rfl, OwnI.nil _ _ _, Below.refl _ _⟩
  | some a =>
    have he := Lib.run_eql_slice_nil (P := Try.prog) w 57 32 (some a) n c 0 0 Try.underlying57
    have HR := Lib.hid hr
    clear hr
    go_enter Try.func50, Try.ntmps50
    go_wp2_with (at_builtin; refine wp_app_term (xs := []) (ys := xs) rfl _ _ rfl rfl rfl (OwnI.empty (B := w.heap.size) (Nat.le_refl _) sp_term) ?_ hl.out ?_ ?_ ?_)
    · exact (HR.out.below (below_new _)).cell
    · simp
    · simp; omega
    intro v' w3 hv3 hg3 hb3
    try simp only [List.nil_append] at hv3
    have HV := Lib.hid hv3
    clear hv3 hg3
    go_wp2_with fail
    go_ret
    exact ⟨_, rfl, HV.out, ((Below.refl _ _).alloc (Nat.le_refl _) _).trans hb3⟩

theorem frozen_later {w wx : World} {a : Addr} (hb : Below w.heap.size w wx) (hl : a.block < w.heap.size) (h : w.frozen? a = false) : wx.frozen? a = false := (hb.frozen hl).trans h
/-- The term of a number; without one the empty one. -/
def nodeT (T : List Nd) (h : Int) : Nd := (getT T h).getD ⟨0, ByteArray.empty, []⟩
def LookPost (T : List Nd) (h : Int) (w : World) (e : Ending) (w' : World) : Prop :=
  ∃ A c, e = .returned (.tuple #[.agg #[.int .i64 (nodeT T h).kind, .string (nodeT T h).text, .slice A (nodeT T h).parts.length c], .bool (getT T h).isSome]) ∧ OwnI w' w.heap.size .i64 (.slice A (nodeT T h).parts.length c) (nodeT T h).parts ∧ Below w.heap.size w w'
theorem look_none {T : List Nd} {h : Int} (e : getT T h = none) {w w' : World} (hb : Below w.heap.size w w') : LookPost T h w (.returned (.tuple #[.agg #[.int .i64 0, .string ByteArray.empty, .slice none 0 0], .bool false])) w' := by
  unfold LookPost nodeT
  rw [e]
  exact ⟨none, 0, rfl, OwnI.nil _ _ _, hb⟩
theorem look_some {T : List Nd} {h : Int} {n : Nd} (e : getT T h = some n) {w w' : World} {A : Option Addr} {c : Nat} (ho : OwnI w' w.heap.size .i64 (.slice A n.parts.length c) n.parts) (hb : Below w.heap.size w w') :
    LookPost T h w (.returned (.tuple #[.agg #[.int .i64 n.kind, .string n.text, .slice A n.parts.length c], .bool true])) w' := by
  unfold LookPost nodeT
  rw [e]
  exact ⟨A, c, rfl, ho, hb⟩

set_option maxHeartbeats 1600000 in
set_option maxRecDepth 100000 in
theorem look_any {B tb : Nat} {T : List Nd} (h : Int) (w : World) (ht : IsTab B w tb T) (h0 : -9223372036854775808 ≤ h) (h1 : h ≤ 9223372036854775807) : Calls Try.prog 57 #[.pointer (some ⟨tb, 0, none⟩), .int .i64 h] w (LookPost T h w) := by
  obtain ⟨hw, hB, v, mb, es, clock, cs, g1, hmb, g3, hm, hown, hcs, -⟩ := ht
  obtain ⟨A, cA, rfl⟩ := owned_slice hown
  have c0 : w.cell? ⟨tb, 0, none⟩ = some (.slice A T.length cA) := by rw [cell_of_row w tb 0 _ _ _ g1]; rfl
  have htb : tb < w.heap.size := lt_of_get g1
  have hTl := hw.len
  have Hw := Lib.hid hw
  have Hown := Lib.hid hown
  have Hcs := Lib.hid hcs
  clear hw g1 g3 hm hown hcs
  by_cases hl : h < 1
  · have HN := Lib.hid (getT_none (T := T) (h := h) (by omega))
    go_enter Try.func57, Try.ntmps57
    go_wp2_with fail
    go_returns
    exact look_none HN.out (below_new _)
  by_cases hh : (T.length : Int) < h
  · have HN := Lib.hid (getT_none (T := T) (h := h) (by omega))
    go_enter Try.func57, Try.ntmps57
    go_wp2_with fail
    go_returns
    exact look_none HN.out (below_new _)
  obtain ⟨i, rfl⟩ : ∃ i : Nat, h = (i : Int) + 1 := ⟨(h - 1).toNat, by omega⟩
  have hi : i < T.length := by omega
  obtain ⟨n, hn⟩ : ∃ n, T[i]? = some n := ⟨_, List.getElem?_eq_getElem hi⟩
  have HG := Lib.hid ((getT_nat i).trans hn)
  have hgood := Lib.hid (Hw.out.good i n hn)
  obtain ⟨g, cap, e1, hfrm⟩ := Hown.out.form (by omega)
  cases e1
  obtain ⟨AP, cP, hp1, hp2⟩ := Hcs.out.parts i n hn
  have k0 : w.cell? ⟨g, i * 3, none⟩ = some (.int .i64 n.kind) := by rw [Hown.out.cellAt _ (by omega)]; exact Hcs.out.kind i n hn
  have k1 : w.cell? ⟨g, i * 3 + 1, none⟩ = some (.string n.text) := by rw [Hown.out.cellAt _ (by omega)]; exact Hcs.out.text i n hn
  have k2 : w.cell? ⟨g, i * 3 + 2, none⟩ = some (.slice AP n.parts.length cP) := by rw [Hown.out.cellAt _ (by omega)]; exact hp1
  have HP := Lib.hid hp2
  have hgl := hfrm.2
  have hi0 : (0 : Int) ≤ (i : Int) := by omega
  have hiT : (i : Int) < (T.length : Int) := by omega
  clear hp1 hp2 hn hfrm
  go_enter Try.func57, Try.ntmps57
  go_wp2_with fail
  have hmany := hgood.out.many
  go_region_law ((go_simp; go_at_call 50; refine (clone_any _ _ _ _ _ ((HP.out.below ((((Below.refl _ _).alloc (Nat.le_refl _) _).alloc (by simp) _)).drew)) (by omega)).mono ?_; rintro e w1 ⟨v, rfl, hv, hb1⟩; obtain ⟨A1, c1, rfl⟩ := hv.slice; have HV := Lib.hid hv; have HB1 := Lib.hid hb1; have q0 := cell_later hb1 (a := ⟨w.heap.size + 1, 0, none⟩) (v := .int .i64 n.kind) (by simp [go_sem]); have q1 := cell_later hb1 (a := ⟨w.heap.size + 1, 1, none⟩) (v := .string n.text) (by simp [go_sem]); have r0 := cell_later hb1 (a := ⟨w.heap.size, 0, none⟩) (v := .int .i64 0) (by simp [go_sem]); have r1 := cell_later hb1 (a := ⟨w.heap.size, 1, none⟩) (v := .string ⟨#[]⟩) (by simp [go_sem]); have r2 := cell_later hb1 (a := ⟨w.heap.size, 2, none⟩) (v := .slice none 0 0) (by simp [go_sem]); have z0 := frozen_later hb1 (a := ⟨w.heap.size, 0, none⟩) (by simp; omega) (by simp [go_sem]); have z1 := frozen_later hb1 (a := ⟨w.heap.size, 1, none⟩) (by simp; omega) (by simp [go_sem]); have z2 := frozen_later hb1 (a := ⟨w.heap.size, 2, none⟩) (by simp; omega) (by simp [go_sem]); clear hv hb1))
  all_goals
    have s0 := World.cell?_setCell_same w1 ⟨w.heap.size, 0, none⟩ (.int .i64 n.kind) r0
    have s1 := World.cell?_setCell_same (w1.setCell ⟨w.heap.size, 0, none⟩ (.int .i64 n.kind)) ⟨w.heap.size, 1, none⟩ (.string n.text) ((World.cell?_setCell_other _ _ _ _ (by simp)).trans r1)
    have s2 := World.cell?_setCell_same ((w1.setCell ⟨w.heap.size, 0, none⟩ (.int .i64 n.kind)).setCell ⟨w.heap.size, 1, none⟩ (.string n.text)) ⟨w.heap.size, 2, none⟩ (.slice A1 n.parts.length c1) ((World.cell?_setCell_other _ _ _ _ (by simp)).trans ((World.cell?_setCell_other _ _ _ _ (by simp)).trans r2))
    clear r0 r1 r2 q0 q1 z0 z1 z2
    go_wp2_with fail
    (try simp only [Exit.inBlock, Exit.then])
    refine bodyPost_ret (v := .tuple #[.agg #[.int .i64 n.kind, .string n.text, .slice A1 n.parts.length c1], .bool true]) (by simp [results, Try.results57, go_sem, s0, s1, s2]) rfl ?_
    refine look_some HG.out ?_ ?_
    · refine OwnI.mono (B := w.heap.size + 2) ?_ (by omega)
      exact ((((HV.out.mono (by simp)).setBelow (by simp) _).setBelow (by simp) _).setBelow (by simp) _)
    · exact ((((below_next ((((Below.refl _ _).alloc (Nat.le_refl _) _).alloc (by simp) _).drew) (by simp; omega) HB1.out).setCell (Nat.le_refl _) _).setCell (Nat.le_refl _) _).setCell (Nat.le_refl _) _)
end Go.Proofs.Ytomopjpfdmpgpaa

/- What kinds, Contains and formed do. No condition. -/
set_option linter.unusedVariables false
set_option linter.unusedSimpArgs false
namespace Go.Proofs.Ytomopjpfdmpgpaa
open Go Go.RowKit Go.WideMaps

/-- All fit an int. -/
def I64 (xs : List Int) : Prop := ∀ x ∈ xs, -9223372036854775808 ≤ x ∧ x ≤ 9223372036854775807
theorem I64.nth {xs : List Int} (h : I64 xs) (j : Nat) : -9223372036854775808 ≤ nth xs j ∧ nth xs j ≤ 9223372036854775807 := by
  by_cases hj : j < xs.length
  · exact h _ (nth_mem hj)
  · simp [Go.Proofs.Ytomopjpfdmpgpaa.nth, List.getElem?_eq_none (show xs.length ≤ j by omega)]
theorem nodeT_kind (T : List Nd) (h : Int) : (nodeT T h).kind = kindT T h := by
  unfold nodeT kindT
  cases getT T h <;> rfl

def KindsPost (T : List Nd) (xs : List Int) (w : World) (e : Ending) (w' : World) : Prop := ∃ v, e = .returned v ∧ OwnI w' w.heap.size .i64 v (xs.map (kindT T)) ∧ Below w.heap.size w w'
set_option maxHeartbeats 1600000 in
set_option maxRecDepth 100000 in
theorem kinds_any {B B' tb : Nat} {T : List Nd} (A : Option Addr) (n c : Nat) (xs : List Int) (w : World) (ht : IsTab B w tb T) (hr : Rds B' w .i64 A n c xs) (hx : I64 xs) (hn : n ≤ 1000000) :
    Calls Try.prog 47 #[.pointer (some ⟨tb, 0, none⟩), .slice A n c] w (KindsPost T xs w) := by
  have HT := Lib.hid ht; clear ht
  have hl := Lib.hid hr.len
  have HR := Lib.hid hr; clear hr
  have HX := Lib.hid hx; clear hx
  go_enter Try.func47, Try.ntmps47
  go_wp2_with fail
  go_loopw [5, 12] (fun v i wr => ∃ k : Nat, k ≤ n ∧ i = .int .i64 k ∧ OwnI wr w.heap.size .i64 v ((xs.take k).map (kindT T)) ∧ Below w.heap.size w wr) (fun _ i _ => n - (intOf i).toNat)
  case atStart => exact ⟨0, Nat.zero_le _, rfl, OwnI.nil _ _ _, Below.refl _ _⟩
  case round =>
    obtain ⟨k, hk, rfl, hown, hb⟩ := hrel
    have HO := Lib.hid hown
    have HB := Lib.hid hb
    clear hown hb
    by_cases hlt : k < n
    · have hR := HR.out.below HB.out
      obtain ⟨b, o, rfl, hcx⟩ := RdI.at_ hR.cell (by have := hl.out; omega)
      have g1 := hcx k (by have := hl.out; omega)
      clear hcx hR
      have hki := HX.out.nth k
      go_wp2_with fail
      refine (look_any (nth xs k) wr (HT.out.below HB.out) hki.1 hki.2).mono ?_
      rintro e w1 ⟨A1, c1, rfl, ho1, hb1⟩
      have hb1s := hb1.size
      have HB1 := Lib.hid (below_step HB.out hb1)
      have HO1 := Lib.hid (HO.out.below hb1)
      rw [nodeT_kind]
      clear ho1 hb1
      generalize (nodeT T (nth xs k)).text = tx
      generalize (nodeT T (nth xs k)).parts.length = ln
      go_wp2_with (at_builtin; refine wp_app_int (ys := [kindT T (nth xs k)]) rfl _ _ rfl rfl rfl ((HO1.out.below (below_new _)).below (below_new _)) (RdI.one_at _ .i64 _ _ (World.size_alloc _ _)) rfl ?_ ?_ ?_)
      · have := HB1.out.size; simp; omega
      · have := hl.out; simp; omega
      intro v' w3 hv3 hg3 hb3
      have HV := Lib.hid hv3
      have HB3 := Lib.hid (((HB1.out.alloc HB1.out.size _).alloc (by have := HB1.out.size; simp; omega) _).trans hb3)
      clear hv3 hg3 hb3
      go_wp2_with fail
      go_roundw
      case rel => exact ⟨k + 1, by omega, by go_num, by have := HV.out; rw [take_nth_succ (by have := hl.out; omega)]; simpa using this, HB3.out⟩
      case measure => simp [intOf]; omega
    · go_wp2_with fail
      go_ret
      refine ⟨_, rfl, ?_, HB.out⟩
      have := HO.out
      rwa [List.take_of_length_le (by have := hl.out; omega)] at this

def ZeroPost (xs : List Int) (w : World) (e : Ending) (w' : World) : Prop := ∃ r : Int, e = .returned (.int .i64 r) ∧ -1 ≤ r ∧ (r = -1 ↔ (0 : Int) ∉ xs) ∧ w = w'
theorem no_zero {xs : List Int} {n : Nat} (hn : xs.length = n) (h : ∀ j, j < n → nth xs j ≠ 0) : (0 : Int) ∉ xs := by
  intro hx
  obtain ⟨j, hj⟩ := List.mem_iff_getElem?.1 hx
  have hl := (List.getElem?_eq_some_iff.1 hj).1
  rw [nth_lt hl] at hj
  exact h j (by omega) (by simpa using hj)
set_option maxHeartbeats 800000 in
set_option maxRecDepth 100000 in
theorem index_zero {B : Nat} (A : Option Addr) (n c : Nat) (xs : List Int) (w : World) (h : Rds B w .i64 A n c xs) :
    Calls Try.prog 65 #[.slice A n c, .int .i64 0] w (ZeroPost xs w) := by
  have Hl := Lib.hid h.len
  have Hc := Lib.hid h.cell
  have hm : n ≤ 9223372036854775807 := Nat.le_trans h.cap h.max
  clear h
  go_enter Try.func65, Try.ntmps65
  go_wp2_with fail
  go_loop [8] (fun i => ∃ k : Nat, k ≤ n ∧ i = .int .i64 k ∧ Hid (∀ j, j < k → nth xs j ≠ 0)) (fun i => n - (intOf i).toNat)
  case atStart => exact ⟨0, Nat.zero_le _, rfl, fun j hj => by omega⟩
  case round =>
    obtain ⟨k, hk, rfl, hq⟩ := hrel
    by_cases hlt : k < n
    · obtain ⟨b, o, rfl, hcx⟩ := RdI.at_ Hc.out (by have := Hl.out; omega)
      have g1 := hcx k (by have := Hl.out; omega)
      clear hcx
      by_cases hz : nth xs k = 0
      · have hz' : (0 == nth xs k) = true := by simp [hz]
        have HZ := Lib.hid hz; clear hz
        go_wp2_with fail
        go_ret
        exact ⟨k, rfl, by omega, ⟨fun h => by omega, fun h => (h (by rw [← HZ.out]; exact nth_mem (by have := Hl.out; omega))).elim⟩, rfl⟩
      · have hz' : (0 == nth xs k) = false := by simp; exact fun h => hz h.symm
        have HZ := Lib.hid hz; clear hz
        go_wp2_with fail
        go_round
        case rel => exact ⟨k + 1, by omega, by go_num, fun j hj => by
          rcases Nat.lt_or_ge j k with h | h
          · exact hq.out j h
          · obtain rfl : j = k := by omega
            exact HZ.out⟩
        case measure => simp [intOf]; omega
    · go_wp2_with fail
      go_ret
      exact ⟨-1, rfl, by omega, ⟨fun _ => no_zero Hl.out fun j hj => hq.out j (by omega), fun _ => rfl⟩, rfl⟩
def HasZeroPost (xs : List Int) (w : World) (e : Ending) (w' : World) : Prop := e = .returned (.bool (decide ((0 : Int) ∈ xs))) ∧ w = w'
set_option maxHeartbeats 400000 in
theorem contains_zero {B : Nat} (A : Option Addr) (n c : Nat) (xs : List Int) (w : World) (h : Rds B w .i64 A n c xs) :
    Calls Try.prog 48 #[.slice A n c, .int .i64 0] w (HasZeroPost xs w) := by
  have H := Lib.hid h; clear h
  go_enter Try.func48, Try.ntmps48
  go_wp2_with fail
  refine (index_zero A n c xs w H.out).mono ?_
  rintro e w1 ⟨r, rfl, hr, hi, rfl⟩
  have HI := Lib.hid hi; clear hi
  go_wp2_with fail
  go_ret
  refine ⟨?_, rfl⟩
  by_cases h : r = -1
  · have := HI.out.1 h
    subst h
    rw [decide_eq_false this]
    rfl
  · have h2 : (0 : Int) ∈ xs := Classical.byContradiction fun k => h (HI.out.2 k)
    rw [decide_eq_true h2, decide_eq_true (show 0 ≤ r by omega)]
    rfl
end Go.Proofs.Ytomopjpfdmpgpaa
