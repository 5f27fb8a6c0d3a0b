/- ParamsAgain: the walk. No condition but the table of bit places. -/
import Derived.Test.YtbfgoojpbhlboaaDoorParRead
import Derived.Test.YtbfgoojpbhlboaaDoorParWrite
import Derived.Test.YtbfgoojpbhlboaaDoorLaw07
set_option linter.unusedVariables false
set_option linter.unusedSimpArgs false
namespace Go.Proofs.YtbfgoojpbhlboaaDoor
open Go Go.RowKit

theorem readP_right {b : List Int} {p : Par} (h : readP b = (p, 0)) : rightP p := by
  unfold readP at h
  split at h
  · simp at h
  · split at h
    · rename_i s hs
      split at h
      · rename_i he
        cases h
        exact he.2.2.2
      · simp at h
    · simp at h
set_option maxHeartbeats 6400000 in
set_option maxRecDepth 100000 in
theorem paramsAgain_walk (w : World) (ht : Tz w) (A : Option Addr) (c : Nat) (xs : List Int) (h : Rds w.heap.size w .u8 A xs.length c xs) (hb : Byt xs) :
    Calls Tryd.prog 6 #[.slice A xs.length c] w fun e w' => e = .returned (.bool true) ∧ Below w.heap.size w w' := by
  have HT := Lib.hid ht
  have H := Lib.hid h
  have HB := Lib.hid hb
  have hcap := h.cap
  have hmax := h.max
  have key := readP_any w h hb
  clear h hb ht
  by_cases hl : xs.length > 600
  · have hli : (xs.length : Int) > 600 := by omega
    go_enter Tryd.func6, Tryd.ntmps6
    go_wp2_with fail
    go_ret
    exact ⟨rfl, Below.refl _ _⟩
  have hli : ¬ (xs.length : Int) > 600 := by omega
  go_enter Tryd.func6, Tryd.ntmps6
  go_wp2_with fail
  refine key.mono ?_
  clear key
  rintro e w1 ⟨s, rfl, hat, hb1⟩
  obtain ⟨⟨p, er⟩, hp⟩ : ∃ r, r = readP xs := ⟨_, rfl⟩
  rw [← hp] at hat ⊢
  simp only at hat ⊢
  have HP := Lib.hid hp
  clear hp
  have HAt := Lib.hid hat
  have HB1 := Lib.hid hb1
  clear hat hb1
  obtain ⟨w2, hw2⟩ : ∃ w2, w2 = w1.alloc (.cells (parCs p s) 27) := ⟨_, rfl⟩
  have hb2 : Below w1.heap.size w1 w2 := by rw [hw2]; exact below_new _
  have HB2 : Hid (Below w.heap.size w w2) := below_next HB1.out HB1.out.size hb2
  have HAt2 := Lib.hid (HAt.out.below hb2)
  unfold parCs at hw2
  by_cases he : er = 0
  rotate_left
  · have he' : (er != 0) = true := by simp [he]
    unfold parCs
    clear hb2
    subst hw2
    go_wp2_with fail
    refine (awake07_any _ (HT.out.later HB2.out)).mono ?_
    rintro e w3 ⟨rfl, hb3⟩
    have HB3 := Lib.hid (below_next HB2.out HB2.out.size hb3)
    clear hb3
    go_wp2_with fail
    go_ret
    exact ⟨rfl, HB3.out⟩
  subst he
  have hrp := readP_right HP.out.symm
  have hwr := read_write HB.out HP.out.symm
  obtain ⟨-, ⟨n1, n2, n3⟩, n4, -⟩ := hrp
  have key := write_any p s w2 HAt2.out (by unfold nameOk at n1 n2 n3; omega) (HT.out.later HB2.out) (fun W h => right_any p s W h (by omega))
  rw [hwr] at key
  have HB2' := Lib.hid HB2.out
  have H2 : Hid (Rds w.heap.size w2 .u8 A xs.length c xs) := H.out.below HB2.out
  unfold parCs at key ⊢
  clear hb2 n1 n2 n3 n4 hwr
  subst hw2
  go_wp2_with fail
  refine key.mono ?_
  clear key
  rintro e w3 ⟨v3, rfl, ho, hb3⟩
  obtain ⟨A3, c3, rfl⟩ := ho.slice
  have HB3 := Lib.hid (below_next HB2.out HB2.out.size hb3)
  have key := same_self07 A3 A _ _ c3 c xs w3 (ho.rds (B' := 0)) (H2.out.below hb3)
  clear ho hb3
  go_wp2_with fail
  refine key.mono ?_
  clear key
  rintro e w4 ⟨rfl, hb4⟩
  have HB4 := Lib.hid (below_next HB3.out HB3.out.size hb4)
  clear hb4
  go_wp2_with fail
  refine (awake07_any w4 (HT.out.later HB4.out)).mono ?_
  rintro e w5 ⟨rfl, hb5⟩
  have HB5 := Lib.hid (below_next HB4.out HB4.out.size hb5)
  clear hb5
  go_wp2_with fail
  go_ret
  exact ⟨rfl, HB5.out⟩
theorem paramsAgain_row {A : Option Addr} {n c : Nat} (w : World) (ht : Tz w) (h : ∃ xs, Rds w.heap.size w .u8 A n c xs ∧ Byt xs) : Calls Tryd.prog 6 #[.slice A n c] w fun e w' => e = .returned (.bool true) ∧ Below w.heap.size w w' := by
  obtain ⟨xs, h1, h2⟩ := h
  obtain rfl := h1.len
  exact paramsAgain_walk w ht A c xs h1 h2
end Go.Proofs.YtbfgoojpbhlboaaDoor
