/- What slices.Grow and slices.Concat do with rows of bytes. No condition. -/
import Derived.Test.YtbfgoojpbhlboaaDoorBase
import Derived.Test.YtbfgoojpbhlboaaDoorPureIdeal
set_option linter.unusedVariables false
set_option linter.unusedSimpArgs false
namespace Go.Proofs.YtbfgoojpbhlboaaDoor
open Go Go.RowKit

theorem below_pair {w : World} (o o' : Obj) : Below w.heap.size w ((w.alloc o).alloc o') := ((Below.refl _ _).alloc (Nat.le_refl _) o).alloc (by simp) o'
/-- A call that hands back a row of bytes of its own. -/
def BytesPost (xs : List Int) (w : World) (e : Ending) (w' : World) : Prop := ∃ v, e = .returned v ∧ OwnI w' w.heap.size .u8 v xs ∧ Below w.heap.size w w'
theorem BytesPost.nil {w w' : World} (hb : Below w.heap.size w w') : BytesPost [] w (.returned (.slice none 0 0)) w' := ⟨_, rfl, OwnI.nil _ _ _, hb⟩
theorem OwnI.none_of {w : World} {B : Nat} {k : IntKind} {A : Option Addr} {n c : Nat} {xs : List Int} (h : OwnI w B k (.slice A n c) xs) : OwnI w B k (.slice A 0 c) [] := by
  rcases h with ⟨rfl, e⟩ | ⟨g, cap, cur, t, e, hb, hg, ht, h1, h2, h3, hc⟩
  · cases e; exact OwnI.nil _ _ _
  · cases e; exact .inr ⟨g, c, cur, t, rfl, hb, hg, ht, Nat.zero_le _, h2, h3, by simp⟩
set_option maxHeartbeats 800000 in
set_option maxRecDepth 100000 in
theorem grow_any (m : Nat) (w : World) (hm : m ≤ 1000000) : Calls Tryd.prog 117 #[.slice none 0 0, .int .i64 m] w (BytesPost [] w) := by
  by_cases h0 : m = 0
  · subst h0
    go_enter Tryd.func117, Tryd.ntmps117
    go_wp2_with fail
    go_ret
    exact BytesPost.nil (Below.refl _ _)
  · have hp : (0 : Int) < (m : Int) := by omega
    have hn : ¬ ((m : Int) < 0) := by omega
    go_enter Tryd.func117, Tryd.ntmps117
    go_wp2_with (at_builtin; refine wp_app_u8_zeros (B := w.heap.size) rfl _ _ rfl rfl rfl rfl (OwnI.nil _ _ _) (by omega) (Nat.le_refl _) (by simp; omega) ?_)
    intro v' w1 hv hg hb
    obtain ⟨A, c, rfl⟩ := hv.slice
    have HV := Lib.hid hv.none_of
    have HB := Lib.hid hb
    have hc := (hv.rds (B' := 0)).cap
    have hmx := (hv.rds (B' := 0)).max
    simp only [List.nil_append, List.length_replicate] at hc ⊢
    clear hv hg hb
    go_wp2_with fail
    go_ret
    exact ⟨_, rfl, HV.out, HB.out⟩

/-- A row of rows of bytes. -/
def RdL (B : Nat) (w : World) (b o : Nat) (L : List (List Int)) : Prop := b < w.heap.size ∧ ∀ i xs, L[i]? = some xs → ∃ A c, w.cell? ⟨b, o + i, none⟩ = some (.slice A xs.length c) ∧ Rds B w .u8 A xs.length c xs
theorem RdL.below {B : Nat} {w w' : World} {b o : Nat} {L : List (List Int)} (h : RdL B w b o L) (hb : Below w.heap.size w w') : RdL B w' b o L :=
  ⟨Nat.lt_of_lt_of_le h.1 hb.size, fun i xs e => by
    obtain ⟨A, c, h1, h2⟩ := h.2 i xs e
    exact ⟨A, c, (hb.cell (by simpa using h.1)).trans h1, h2.below hb⟩⟩
theorem flat_succ {L : List (List Int)} {k : Nat} {xs : List Int} (h : L[k]? = some xs) : (L.take (k + 1)).flatten = (L.take k).flatten ++ xs := by
  rw [List.take_add_one, h]
  simp
theorem flat_le (L : List (List Int)) (k : Nat) : (L.take k).flatten.length ≤ L.flatten.length := by
  have : (L.take k ++ L.drop k).flatten.length = L.flatten.length := by rw [List.take_append_drop]
  simp only [List.flatten_append, List.length_append] at this
  omega
set_option maxHeartbeats 1600000 in
set_option maxRecDepth 100000 in
theorem concat_any {B' : Nat} (b o n c : Nat) (L : List (List Int)) (w : World) (h : RdL B' w b o L) (hn : L.length = n) (hc : n ≤ c) (hc2 : c ≤ 9223372036854775807) (hl : L.flatten.length ≤ 100000) :
    Calls Tryd.prog 90 #[.slice (some ⟨b, o, none⟩) n c] w (BytesPost L.flatten w) := by
  have H := Lib.hid h
  have HN := Lib.hid hn
  have HF := Lib.hid hl
  clear h hn hl
  go_enter Tryd.func90, Tryd.ntmps90
  go_wp2_with fail
  go_loop [3, 11] (fun s i => ∃ k : Nat, k ≤ n ∧ s = .int .i64 ((L.take k).flatten.length : Nat) ∧ i = .int .i64 k) (fun _ i => n - (intOf i).toNat)
  case atStart => exact ⟨0, Nat.zero_le _, rfl, rfl⟩
  case round =>
    obtain ⟨k, hk, rfl, rfl⟩ := hrel
    by_cases hlt : k < n
    · obtain ⟨xs, hxs⟩ : ∃ xs, L[k]? = some xs := ⟨_, List.getElem?_eq_getElem (by have := HN.out; omega)⟩
      obtain ⟨A, c1, x0, -⟩ := H.out.2 k xs hxs
      have HX := Lib.hid (flat_succ hxs)
      have hle := flat_le L (k + 1)
      have hlen : (L.take (k + 1)).flatten.length = (L.take k).flatten.length + xs.length := by rw [HX.out]; simp
      have HL := Lib.hid hlen
      have hF := HF.out
      obtain ⟨S, hS⟩ : ∃ S, S = (L.take k).flatten.length := ⟨_, rfl⟩
      rw [← hS] at hlen ⊢
      have hw : IntKind.i64.wrap ((S : Int) + (xs.length : Int)) = ((S + xs.length : Nat) : Int) := by rw [IntKind.wrap_i64]; push_cast; omega
      have hnn : ¬ (((S + xs.length : Nat) : Int) < 0) := by omega
      have HS := Lib.hid hS
      clear hxs hle hlen hF hS
      go_wp2_with fail
      go_round
      case rel => exact ⟨k + 1, by omega, by rw [HL.out, ← HS.out]; push_cast; rfl, by go_num⟩
      case measure => simp [intOf]; omega
    · obtain rfl : k = n := by omega
      have hF := HF.out
      have hle := flat_le L k
      obtain ⟨S, hS⟩ : ∃ S, S = (L.take k).flatten.length := ⟨_, rfl⟩
      rw [← hS] at hle ⊢
      clear hS
      go_wp2_with fail
      refine (grow_any S w (by omega)).mono ?_
      rintro e w1 ⟨v, rfl, hv, hb⟩
      have HV := Lib.hid hv
      have HB := Lib.hid hb
      clear hv hb
      go_wp2_with fail
      go_loopw [6, 27] (fun v i wr => ∃ j : Nat, j ≤ k ∧ i = .int .i64 j ∧ OwnI wr w.heap.size .u8 v (L.take j).flatten ∧ Below w.heap.size w wr) (fun _ i _ => k - (intOf i).toNat)
      case atStart => exact ⟨0, Nat.zero_le _, rfl, HV.out, HB.out⟩
      case round =>
        obtain ⟨j, hj, rfl, hv, hb⟩ := hrel
        have HV := Lib.hid hv
        have HB := Lib.hid hb
        clear hv hb
        by_cases hlt : j < k
        · obtain ⟨xs, hxs⟩ : ∃ xs, L[j]? = some xs := ⟨_, List.getElem?_eq_getElem (by have := HN.out; omega)⟩
          obtain ⟨A, c1, x0, hr⟩ := (H.out.below HB.out).2 j xs hxs
          have HR := Lib.hid hr.cell
          have HX := Lib.hid (flat_succ hxs)
          have hle2 := flat_le L (j + 1)
          rw [HX.out] at hle2
          simp only [List.length_append] at hle2
          clear hr hxs
          go_wp2_with (at_builtin; refine wp_app_u8 rfl _ _ rfl rfl rfl HV.out HR.out rfl HB.out.size (by omega) ?_)
          intro v' w2 hv2 hg2 hb2
          rw [← HX.out] at hv2
          have HV2 := Lib.hid hv2
          have HB2 := Lib.hid (HB.out.trans hb2)
          clear hv2 hg2 hb2
          go_wp2_with fail
          go_roundw
          case rel => exact ⟨j + 1, by omega, by go_num, HV2.out, HB2.out⟩
          case measure => simp [intOf]; omega
        · obtain rfl : j = k := by omega
          have HE : Hid ((L.take j).flatten = L.flatten) := by show _ = _; rw [List.take_of_length_le (by have := HN.out; omega)]
          go_wp2_with fail
          go_ret
          exact ⟨_, rfl, by rw [← HE.out]; exact HV.out, HB.out⟩
theorem RdL.lit {B g t : Nat} {w0 : World} (hg : w0.heap.size = g) (L : List (Option Addr × Nat × List Int)) (cs : Array Value) (hcs : cs = (L.map fun q => Value.slice q.1 q.2.2.length q.2.1).toArray) (h : ∀ q ∈ L, Rds B w0 .u8 q.1 q.2.2.length q.2.1 q.2.2) :
    RdL B (w0.alloc (.cells cs t)) g 0 (L.map (·.2.2)) := by
  subst hg hcs
  refine ⟨by simp, fun i xs e => ?_⟩
  rw [List.getElem?_map] at e
  obtain ⟨q, hq, rfl⟩ := Option.map_eq_some_iff.1 e
  refine ⟨q.1, q.2.1, ?_, (h q (List.mem_of_getElem? hq)).below (below_new _)⟩
  rw [cell_of_row _ _ (0 + i) _ _ _ (heap_alloc_new w0 _), Nat.zero_add]
  simp [hq]
theorem rds_byte {B g : Nat} {w0 : World} (hg : w0.heap.size = g) (x : Int) : Rds B (w0.alloc (.cells #[.int .u8 x] 5)) .u8 (some ⟨g, 0, none⟩) 1 1 [x] := by
  subst hg
  exact (OwnI.fresh (w := w0) (B := 0) (k := .u8) (xs := [x]) (t := 5) (Nat.zero_le _) (by decide) (by simp)).rds
end Go.Proofs.YtbfgoojpbhlboaaDoor
