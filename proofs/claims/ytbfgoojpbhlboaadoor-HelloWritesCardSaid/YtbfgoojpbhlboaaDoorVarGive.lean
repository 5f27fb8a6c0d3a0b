/- Give (layer 1), a field (layer 7), Clone at numbers. No condition but the table of bit places. -/
import Derived.Test.YtbfgoojpbhlboaaDoorVarint2
import Derived.Test.YtbfgoojpbhlboaaDoorPureHello
set_option linter.unusedVariables false
set_option linter.unusedSimpArgs false
namespace Go.Proofs.YtbfgoojpbhlboaaDoor
open Go Go.RowKit

theorem sizeV_le8 (n : Int) : sizeV n ≤ 8 := by rcases sizeV_cases n with h | h | h | h | h <;> omega
set_option maxHeartbeats 1600000 in
set_option maxRecDepth 100000 in
theorem give_any {B B' : Nat} (A : Option Addr) (n c : Nat) (xs : List Int) (A2 : Option Addr) (n2 c2 : Nat) (ys : List Int) (w : World) (hr : Rds B w .u8 A n c xs) (hr2 : Rds B' w .u8 A2 n2 c2 ys) (hn : n ≤ 100000) (hn2 : n2 ≤ 100000) (ht : Tz w) :
    Calls Tryd.prog 79 #[.slice A n c, .slice A2 n2 c2] w (BytesPost (xs ++ giveB ys) w) := by
  have key := vappend_any A n c xs (n2 : Int) w hr hn ht
  have HR := Lib.hid hr2
  have HL := Lib.hid hr.len
  have HL2 := Lib.hid hr2.len
  clear hr hr2 ht
  go_enter Tryd.func79, Tryd.ntmps79
  go_wp2_with fail
  refine key.mono ?_
  clear key
  rintro e w1 ⟨v1, rfl, hv1, hb1⟩
  have HV := Lib.hid hv1
  have HB := Lib.hid hb1
  clear hv1 hb1
  have hl1 : Hid (∀ N, (varB N).length ≤ 8) := fun N => by rw [varB_len]; exact sizeV_le8 N
  go_wp2_with (at_builtin; refine wp_app_u8 (ys := ys) rfl _ _ rfl rfl rfl HV.out ?_ HL2.out ?_ ?_ ?_)
  · exact (HR.out.below HB.out).cell
  · exact HB.out.size
  · have := HL.out; have := hl1.out n2; rw [List.length_append]; omega
  intro v' w3 hv3 hg3 hb3
  have HV3 : Hid (OwnI w3 w.heap.size .u8 v' (xs ++ giveB ys)) := OwnI.of_eq (by rw [← HL2.out]; first | rfl | (rw [List.append_assoc]; rfl)) hv3
  have HB3 := Lib.hid (HB.out.trans hb3)
  clear hv3 hg3 hb3
  go_wp2_with fail
  go_ret
  exact ⟨_, rfl, HV3.out, HB3.out⟩

set_option maxHeartbeats 1600000 in
set_option maxRecDepth 100000 in
theorem field_any {B B' : Nat} (A : Option Addr) (n c : Nat) (xs : List Int) (N : Int) (A2 : Option Addr) (n2 c2 : Nat) (ys : List Int) (w : World) (hr : Rds B w .u8 A n c xs) (hr2 : Rds B' w .u8 A2 n2 c2 ys) (hn : n ≤ 90000) (hn2 : n2 ≤ 90000) (ht : Tz w) :
    Calls Tryd.prog 35 #[.slice A n c, .int .i64 N, .slice A2 n2 c2] w (BytesPost (xs ++ fieldB N ys) w) := by
  have key := vappend_any A n c xs N w hr (by omega) ht
  have HR := Lib.hid hr2
  have HL := Lib.hid hr.len
  have HT := Lib.hid ht
  have HL2 := Lib.hid hr2.len
  clear hr hr2 ht
  go_enter Tryd.func35, Tryd.ntmps35
  go_wp2_with fail
  refine key.mono ?_
  clear key
  rintro e w1 ⟨v1, rfl, hv1, hb1⟩
  obtain ⟨A1, c1, rfl⟩ := hv1.slice
  have HB := Lib.hid hb1
  obtain ⟨zs, hzs⟩ : ∃ zs, zs = xs ++ varB N := ⟨_, rfl⟩
  rw [← hzs] at hv1 ⊢
  have hz8 : zs.length ≤ 100000 := by rw [hzs, List.length_append, varB_len]; have := HL.out; have := sizeV_le8 N; omega
  have key := give_any A1 zs.length c1 zs A2 n2 c2 ys w1 (hv1.rds (B' := 0)) (HR.out.below hb1) hz8 (by omega) (HT.out.later hb1)
  have HZ := Lib.hid hzs
  clear hv1 hb1 hzs
  go_wp2_with fail
  refine key.mono ?_
  clear key
  rintro e w2 ⟨v2, rfl, hv2, hb2⟩
  have HV : Hid (OwnI w2 w.heap.size .u8 v2 (xs ++ fieldB N ys)) := (OwnI.of_eq (by rw [HZ.out, List.append_assoc]; rfl) hv2).mono HB.out.size
  have HB2 := Lib.hid (below_next HB.out HB.out.size hb2)
  clear hv2 hb2
  go_wp2_with fail
  go_ret
  exact ⟨_, rfl, HV.out, HB2.out⟩
end Go.Proofs.YtbfgoojpbhlboaaDoor
