/- ParamsRead: the walk. No condition but the table of bit places. -/
import Derived.Test.YtbfgoojpbhlboaaDoorRefRead07
import Derived.Test.YtbfgoojpbhlboaaDoorParTold
set_option linter.unusedVariables false
set_option linter.unusedSimpArgs false
namespace Go.Proofs.YtbfgoojpbhlboaaDoor
open Go Go.RowKit

set_option maxHeartbeats 6400000 in
set_option maxRecDepth 100000 in
theorem paramsRead_walk (w : World) (ht : Tz w) (A : Option Addr) (c : Nat) (xs : List Int) (h : Rds w.heap.size w .u8 A xs.length c xs) (hb : Byt xs) :
    Calls Tryd.prog 5 #[.slice A xs.length c] w fun e w' => e = .returned (.bool true) ∧ Below w.heap.size w w' := by
  have HT := Lib.hid ht
  have H := Lib.hid h
  have HB := Lib.hid hb
  have hcap := h.cap
  have hmax := h.max
  clear h hb ht
  by_cases hl : xs.length > 600
  · have hli : (xs.length : Int) > 600 := by omega
    go_enter Tryd.func5, Tryd.ntmps5
    go_wp2_with fail
    go_ret
    exact ⟨rfl, Below.refl _ _⟩
  have hli : ¬ (xs.length : Int) > 600 := by omega
  have HL := Lib.hid hl
  clear hl
  have HR1 : Hid (RdI (w.alloc (.cells #[] 5)) .u8 A xs) := (H.out.below (below_new _)).cell
  have HZ1 : Hid (Below w.heap.size w (w.alloc (.cells #[] 5))) := below_new _
  go_enter Tryd.func5, Tryd.ntmps5
  go_wp2_with (at_builtin; refine wp_app_u8 (xs := []) (ys := xs) rfl _ _ rfl rfl rfl (OwnI.empty (B := w.heap.size) (Nat.le_refl _) sp_u8) HR1.out rfl (by simp) (by have := HL.out; simp; omega) ?_)
  intro v1 w1 hv1 hg1 hb1
  obtain ⟨A1, c1, rfl⟩ := hv1.slice
  have HB1 : Hid (Below w.heap.size w w1) := HZ1.out.trans hb1
  have key := readP_any w1 (hv1.rds (B' := w1.heap.size)) HB.out
  clear hv1 hg1 hb1
  obtain ⟨⟨p, er⟩, hp⟩ : ∃ r, r = readP xs := ⟨_, rfl⟩
  unfold ReadPPost at key
  rw [← hp] at key
  simp only at key
  have HP := Lib.hid hp
  clear hp
  go_wp2_with fail
  refine key.mono ?_
  clear key
  rintro e w2 ⟨s, rfl, hat, hb2⟩
  have HB2 := Lib.hid (below_next HB1.out HB1.out.size hb2)
  obtain ⟨W3, hW3⟩ : ∃ W3, W3 = w2.alloc (.cells (parCs p s) 27) := ⟨_, rfl⟩
  have hb3 : Below w2.heap.size w2 W3 := by rw [hW3]; exact below_new _
  have HB3 := Lib.hid (below_next HB2.out HB2.out.size hb3)
  have X3 : Hid (PX W3 w2.heap.size p s) := ⟨by rw [hW3]; exact heap_alloc_new w2 _, hat.below hb3⟩
  have H3 : Hid (Rds W3.heap.size W3 .u8 A xs.length c xs) := (H.out.below HB3.out).mono HB3.out.size
  have key := rreadP_any W3 H3.out HB.out
  unfold RReadPost at key
  rw [← HP.out] at key
  simp only at key
  unfold parCs at hW3 ⊢
  clear hat hb2 hb3
  subst hW3
  go_wp2_with fail
  refine key.mono ?_
  clear key
  rintro e w4 ⟨t, rfl, hat, hb4⟩
  have HB4 := Lib.hid (below_next HB3.out HB3.out.size hb4)
  have X4 := Lib.hid (X3.out.below hb4)
  obtain ⟨W5, hW5⟩ : ∃ W5, W5 = w4.alloc (.cells (parCs p t) 25) := ⟨_, rfl⟩
  have hb5 : Below w4.heap.size w4 W5 := by rw [hW5]; exact below_new _
  have HB5 := Lib.hid (below_next HB4.out HB4.out.size hb5)
  have X5 := Lib.hid (X4.out.below hb5)
  have Y5 : Hid (ParD W5 w4.heap.size p t) := by show W5.heap[_]? = _; rw [hW5]; exact heap_alloc_new w4 _
  have Z5 := Lib.hid (hat.below hb5)
  have key := told_any p p s t W5 X5.out.h Z5.out
  obtain ⟨⟨a0, a1, a2, a3, a4⟩, a5, a6, a7, a8, a9⟩ := X5.out.b.ten
  obtain ⟨⟨b0, b1, b2, b3, b4⟩, b5, b6, b7, b8, b9⟩ := Y5.out.ten
  unfold parCs at hW5 key ⊢
  clear hat hb4 hb5 X3 X4
  subst hW5
  go_wp2_with fail
  refine key.mono ?_
  clear key a0 a1 a2 a3 a4 a5 a6 a7 a8 a9 b0 b1 b2 b3 b4 b5 b6 b7 b8 b9
  rintro e w6 ⟨rfl, hb6⟩
  have HB6 := Lib.hid (below_next HB5.out HB5.out.size hb6)
  clear hb6
  rw [decide_eq_true (sameP_refl p)]
  go_wp2_with fail
  refine (awake07_any w6 (HT.out.later HB6.out)).mono ?_
  rintro e w7 ⟨rfl, hb7⟩
  have HB7 := Lib.hid (below_next HB6.out HB6.out.size hb7)
  clear hb7
  go_wp2_with fail
  go_ret
  exact ⟨rfl, HB7.out⟩
theorem paramsRead_row {A : Option Addr} {n c : Nat} (w : World) (ht : Tz w) (h : ∃ xs, Rds w.heap.size w .u8 A n c xs ∧ Byt xs) : Calls Tryd.prog 5 #[.slice A n c] w fun e w' => e = .returned (.bool true) ∧ Below w.heap.size w w' := by
  obtain ⟨xs, h1, h2⟩ := h
  obtain rfl := h1.len
  exact paramsRead_walk w ht A c xs h1 h2
end Go.Proofs.YtbfgoojpbhlboaaDoor
