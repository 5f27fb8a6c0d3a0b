/- Bytes behind their length: Take, and the reference's Take and Give. No condition. -/
import Derived.Test.YtbfgoojpbhlboaaDoorPureHello
import Derived.Test.YtbfgoojpbhlboaaDoorVarRead
import Derived.Test.YtbfgoojpbhlboaaDoorVarBytes
import Derived.Test.YtbfgoojpbhlboaaDoorVarGive
import Derived.Test.YtbfgoojpbhlboaaDoorCut
import Derived.Test.YtbfgoojpbhlboaaDoorLater
import Derived.Deep.RegionHeld3
set_option linter.unusedVariables false
set_option linter.unusedSimpArgs false
namespace Go.Proofs.YtbfgoojpbhlboaaDoor
open Go Go.RowKit

def TakePost (xs : List Int) (w : World) (e : Ending) (w' : World) : Prop :=
  ∃ v1 v2, e = .returned (.tuple #[v1, v2, .int .i64 (takeV xs).2.2]) ∧ OwnI w' w.heap.size .u8 v1 (takeV xs).1 ∧ OwnI w' w.heap.size .u8 v2 (takeV xs).2.1 ∧ Below w.heap.size w w'
theorem TakePost.no {xs : List Int} {w w' : World} {n : Int} (h : takeV xs = ([], [], n)) (hb : Below w.heap.size w w') : TakePost xs w (.returned (.tuple #[.slice none 0 0, .slice none 0 0, .int .i64 n])) w' := by
  refine ⟨.slice none 0 0, .slice none 0 0, ?_, ?_, ?_, hb⟩
  · rw [h]
  · rw [h]; exact OwnI.nil _ _ _
  · rw [h]; exact OwnI.nil _ _ _
theorem TakePost.yes {xs ys zs : List Int} {w w' : World} {v1 v2 : Value} (h : takeV xs = (ys, zs, 0)) (h1 : OwnI w' w.heap.size .u8 v1 ys) (h2 : OwnI w' w.heap.size .u8 v2 zs) (hb : Below w.heap.size w w') : TakePost xs w (.returned (.tuple #[v1, v2, .int .i64 0])) w' := by
  refine ⟨v1, v2, ?_, ?_, ?_, hb⟩
  · rw [h]
  · rw [h]; exact h1
  · rw [h]; exact h2
set_option maxHeartbeats 3200000 in
set_option maxRecDepth 100000 in
theorem vtake_any {B : Nat} (A : Option Addr) (n c : Nat) (xs : List Int) (w : World) (h : Rds B w .u8 A n c xs) (hb : Byt xs) (hn : n ≤ 1000000) :
    Calls Tryd.prog 88 #[.slice A n c] w (TakePost xs w) := by
  have HR := Lib.hid h
  have HL := Lib.hid h.len
  have hcap := h.cap
  have key := vread_any A n c xs w h hb
  clear h
  obtain ⟨a, s, e, hr⟩ : ∃ a s e, readV xs = (a, s, e) := ⟨_, _, _, rfl⟩
  have R1 := Lib.hid hr
  have hs1 := readV_size (xs := xs)
  rw [hr] at hs1
  simp only at hs1
  have hsn : s ≤ n := by have := HL.out; omega
  have key' : Calls Tryd.prog 86 #[.slice A n c] w fun e' w' => e' = .returned (.tuple #[.int .i64 a, .int .i64 s, .int .i64 e]) ∧ w = w' := by
    have h2 := key
    unfold ReadPost at h2
    rwa [hr] at h2
  clear key hs1
  by_cases he : e = 0
  rotate_left
  · have HN : Hid (takeV xs = ([], [], e)) := by show _ = _; rw [takeV_err (by rw [hr]; exact he), hr]
    have hb1 : (e != 0) = true := by simp [he]
    clear hr he
    go_enter Tryd.func88, Tryd.ntmps88
    go_wp2_with fail
    refine key'.mono ?_
    clear key'
    rintro e w1 ⟨rfl, rfl⟩
    go_wp2_with fail
    go_returns
    exact TakePost.no HN.out (Below.refl _ _)
  subst he
  have ha : 0 ≤ a := by
    obtain ⟨-, q2, q3⟩ := rd_ok (xs := xs) (by rw [hr])
    have := sizeV_pos.1 (show sizeV (readV xs).1 ≠ 0 by omega)
    rw [hr] at this
    exact this.1
  by_cases hlt : (n : Int) - s < a
  · have HN : Hid (takeV xs = ([], [], 2)) := by show _ = _; exact takeV_short (by rw [hr]) (by rw [hr, HL.out]; exact hlt)
    clear hr
    go_enter Tryd.func88, Tryd.ntmps88
    go_wp2_with fail
    refine key'.mono ?_
    clear key'
    rintro e w1 ⟨rfl, rfl⟩
    go_wp2_with fail
    go_returns
    exact TakePost.no HN.out (Below.refl _ _)
  · obtain ⟨m, rfl⟩ : ∃ m : Nat, a = m := ⟨a.toNat, by omega⟩
    have hm : s + m ≤ n := by omega
    have HN : Hid (takeV xs = ((xs.take (s + m)).drop s, xs.drop (s + m), 0)) := by
      show _ = _
      rw [takeV_ok (by rw [hr]) (by rw [hr, HL.out]; exact hlt), hr]
      simp only [Int.toNat_natCast]
      rw [List.drop_take, show s + m - s = m from by omega]
    obtain ⟨q, hq⟩ : ∃ q : Nat, q = s + m := ⟨_, rfl⟩
    rw [← hq] at hm HN
    have hsq : s ≤ q := by omega
    obtain ⟨A1, hA1⟩ : ∃ A1, A1 = cutA A s c := ⟨_, rfl⟩
    obtain ⟨A2, hA2⟩ : ∃ A2, A2 = cutA A q c := ⟨_, rfl⟩
    have HR1 : Hid (Rds B w .u8 A1 (q - s) (c - s) ((xs.take q).drop s)) := by rw [hA1]; exact HR.out.cut2 hsq hm
    have HR2 : Hid (Rds B w .u8 A2 (n - q) (c - q) (xs.drop q)) := by rw [hA2]; exact HR.out.cut hm
    have hif1 : (if c = s then A else Option.map (fun x => x.add s) A) = A1 := by rw [hA1]; unfold cutA; simp
    have hif2 : (if c = q then A else Option.map (fun x => x.add q) A) = A2 := by rw [hA2]; unfold cutA; simp
    have HW : Hid (IntKind.i64.wrap ((s : Int) + m) = (q : Int)) := by show _ = _; rw [IntKind.wrap_i64]; omega
    have HQ := Lib.hid hq
    clear hr hA1 hA2 hq
    go_enter Tryd.func88, Tryd.ntmps88
    go_wp2_with fail
    refine key'.mono ?_
    clear key'
    rintro e w1 ⟨rfl, rfl⟩
    go_wp2_with fail
    have hsum := HW.out
    have hm' : (q : Int) ≤ n := by omega
    have hmc : (q : Int) ≤ c := by omega
    have hs0 : (0 : Int) ≤ s := by omega
    have hq0 : (0 : Int) ≤ q := by omega
    have hs2 : (s : Int) ≤ q := by omega
    have HD : Hid (Below w.heap.size w w.drew) := (Below.refl _ _).drew
    go_region_held3 (fun w' => True) (trivial) ((first
    | (go_at_call 80
       have h0 := HD
       have key := cloneB_any A1 _ _ _ w.drew (HR1.out.below HD.out) (by omega)
       refine key.mono ?_
       clear key
       rintro e w1 ⟨v1, rfl, ho, hb⟩
       have HB1 := Lib.hid (HD.out.trans hb)
       have HO1 := Lib.hid (show OwnI w1 w.heap.size .u8 v1 _ from ho)
       clear HD ho hb h0)
    | (go_at_call 80
       have h0 := HD
       have key := cloneB_any A2 _ _ _ w.drew (HR2.out.below HD.out) (by omega)
       refine key.mono ?_
       clear key
       rintro e w1 ⟨v2, rfl, ho, hb⟩
       have HB2 := Lib.hid (HD.out.trans hb)
       have HO2 := Lib.hid (show OwnI w1 w.heap.size .u8 v2 _ from ho)
       clear HD ho hb h0)
    | (go_at_call 80
       have h0 := HB1
       have key := cloneB_any A2 _ _ _ w1 (HR2.out.below HB1.out) (by omega)
       refine key.mono ?_
       clear key
       rintro e w2 ⟨v2, rfl, ho, hb⟩
       have HBf := Lib.hid (below_next HB1.out HB1.out.size hb)
       have HF1 := Lib.hid (HO1.out.below hb)
       have HF2 := Lib.hid (ho.mono HB1.out.size)
       clear HB1 HO1 ho hb h0)
    | (go_at_call 80
       have h0 := HB2
       have key := cloneB_any A1 _ _ _ w1 (HR1.out.below HB2.out) (by omega)
       refine key.mono ?_
       clear key
       rintro e w2 ⟨v1, rfl, ho, hb⟩
       have HBf := Lib.hid (below_next HB2.out HB2.out.size hb)
       have HF2 := Lib.hid (HO2.out.below hb)
       have HF1 := Lib.hid (ho.mono HB2.out.size)
       clear HB2 HO2 ho hb h0)))
    all_goals
      clear hif1 hif2 hsum
      go_wp2_with fail
      go_returns
      exact TakePost.yes HN.out HF1.out HF2.out HBf.out

def RTakePost (B : Nat) (xs : List Int) (w : World) (e : Ending) (w' : World) : Prop :=
  ∃ A1 c1 A2 c2, e = .returned (.tuple #[.slice A1 (takeV xs).1.length c1, .slice A2 (takeV xs).2.1.length c2, .int .i64 (takeV xs).2.2]) ∧ Rds B w' .u8 A1 (takeV xs).1.length c1 (takeV xs).1 ∧ Rds B w' .u8 A2 (takeV xs).2.1.length c2 (takeV xs).2.1 ∧ Below w.heap.size w w'
theorem RTakePost.no {B : Nat} {xs : List Int} {w w' : World} {n : Int} (h : takeV xs = ([], [], n)) (hb : Below w.heap.size w w') : RTakePost B xs w (.returned (.tuple #[.slice none 0 0, .slice none 0 0, .int .i64 n])) w' := by
  refine ⟨none, 0, none, 0, ?_, ?_, ?_, hb⟩
  · rw [h]; rfl
  · rw [h]; exact Rds.nil _ _ _
  · rw [h]; exact Rds.nil _ _ _
theorem RTakePost.yes {B : Nat} {xs ys zs : List Int} {w w' : World} {A1 A2 : Option Addr} {n1 c1 n2 c2 : Nat} (h : takeV xs = (ys, zs, 0)) (h1 : Rds B w' .u8 A1 n1 c1 ys) (h2 : Rds B w' .u8 A2 n2 c2 zs) (hb : Below w.heap.size w w') : RTakePost B xs w (.returned (.tuple #[.slice A1 n1 c1, .slice A2 n2 c2, .int .i64 0])) w' := by
  have l1 := h1.len
  have l2 := h2.len
  subst l1 l2
  refine ⟨A1, c1, A2, c2, ?_, ?_, ?_, hb⟩
  · rw [h]
  · rw [h]; exact h1
  · rw [h]; exact h2
set_option maxHeartbeats 3200000 in
set_option maxRecDepth 100000 in
theorem rtake_any {B : Nat} (A : Option Addr) (n c : Nat) (xs : List Int) (w : World) (h : Rds B w .u8 A n c xs) (hb : Byt xs) (hn : n ≤ 1000000) :
    Calls Tryd.prog 56 #[.slice A n c] w (RTakePost B xs w) := by
  have HR := Lib.hid h
  have HL := Lib.hid h.len
  have hcap := h.cap
  have key := rread_any A n c xs w h hb
  clear h
  obtain ⟨a, s, e, hr⟩ : ∃ a s e, readV xs = (a, s, e) := ⟨_, _, _, rfl⟩
  have hs1 := readV_size (xs := xs)
  rw [hr] at hs1
  simp only at hs1
  have hsn : s ≤ n := by have := HL.out; omega
  have key' : Calls Tryd.prog 55 #[.slice A n c] w fun e' w' => e' = .returned (.tuple #[.int .i64 a, .int .i64 s, .int .i64 e]) ∧ w = w' := by
    have h2 := key
    unfold ReadPost at h2
    rwa [hr] at h2
  clear key hs1
  by_cases he : e = 0
  rotate_left
  · have HN : Hid (takeV xs = ([], [], e)) := by show _ = _; rw [takeV_err (by rw [hr]; exact he), hr]
    have hb1 : (e != 0) = true := by simp [he]
    clear hr he
    go_enter Tryd.func56, Tryd.ntmps56
    go_wp2_with fail
    refine key'.mono ?_
    clear key'
    rintro e w1 ⟨rfl, rfl⟩
    go_wp2_with fail
    go_returns
    exact RTakePost.no HN.out (Below.refl _ _)
  subst he
  have ha : 0 ≤ a := by
    obtain ⟨-, q2, q3⟩ := rd_ok (xs := xs) (by rw [hr])
    have := sizeV_pos.1 (show sizeV (readV xs).1 ≠ 0 by omega)
    rw [hr] at this
    exact this.1
  by_cases hlt : (n : Int) - s < a
  · have HN : Hid (takeV xs = ([], [], 2)) := by show _ = _; exact takeV_short (by rw [hr]) (by rw [hr, HL.out]; exact hlt)
    clear hr
    go_enter Tryd.func56, Tryd.ntmps56
    go_wp2_with fail
    refine key'.mono ?_
    clear key'
    rintro e w1 ⟨rfl, rfl⟩
    go_wp2_with fail
    go_returns
    exact RTakePost.no HN.out (Below.refl _ _)
  · obtain ⟨m, rfl⟩ : ∃ m : Nat, a = m := ⟨a.toNat, by omega⟩
    have hm : s + m ≤ n := by omega
    have HN : Hid (takeV xs = ((xs.take (s + m)).drop s, xs.drop (s + m), 0)) := by
      show _ = _
      rw [takeV_ok (by rw [hr]) (by rw [hr, HL.out]; exact hlt), hr]
      simp only [Int.toNat_natCast]
      rw [List.drop_take, show s + m - s = m from by omega]
    obtain ⟨q, hq⟩ : ∃ q : Nat, q = s + m := ⟨_, rfl⟩
    rw [← hq] at hm HN
    have hsq : s ≤ q := by omega
    obtain ⟨A1, hA1⟩ : ∃ A1, A1 = cutA A s c := ⟨_, rfl⟩
    obtain ⟨A2, hA2⟩ : ∃ A2, A2 = cutA A q c := ⟨_, rfl⟩
    have HR1 : Hid (Rds B w .u8 A1 (q - s) (c - s) ((xs.take q).drop s)) := by rw [hA1]; exact HR.out.cut2 hsq hm
    have HR2 : Hid (Rds B w .u8 A2 (n - q) (c - q) (xs.drop q)) := by rw [hA2]; exact HR.out.cut hm
    have hif1 : (if c = s then A else Option.map (fun x => x.add s) A) = A1 := by rw [hA1]; unfold cutA; simp
    have hif2 : (if c = q then A else Option.map (fun x => x.add q) A) = A2 := by rw [hA2]; unfold cutA; simp
    have HW : Hid (IntKind.i64.wrap ((s : Int) + m) = (q : Int)) := by show _ = _; rw [IntKind.wrap_i64]; omega
    have HQ := Lib.hid hq
    clear hr hA1 hA2 hq
    go_enter Tryd.func56, Tryd.ntmps56
    go_wp2_with fail
    refine key'.mono ?_
    clear key'
    rintro e w1 ⟨rfl, rfl⟩
    go_wp2_with fail
    have hsum := HW.out
    have hm' : (q : Int) ≤ n := by omega
    have hmc : (q : Int) ≤ c := by omega
    have hs0 : (0 : Int) ≤ s := by omega
    have hq0 : (0 : Int) ≤ q := by omega
    have hs2 : (s : Int) ≤ q := by omega
    go_quiet (fail)
    clear hif1 hif2 hsum
    go_wp2_with fail
    go_returns
    exact RTakePost.yes HN.out (HR1.out.drewN _) (HR2.out.drewN _) (below_drewN (Below.refl _ _) _)
set_option maxHeartbeats 1600000 in
set_option maxRecDepth 100000 in
theorem rgive_any {B : Nat} (A : Option Addr) (n c : Nat) (xs : List Int) (w : World) (h : Rds B w .u8 A n c xs) (hn : n ≤ 1000000) :
    Calls Tryd.prog 68 #[.slice A n c] w (BytesPost (giveB xs) w) := by
  have HR := Lib.hid h
  have HL := Lib.hid h.len
  have key := rbytes_any (n : Int) w
  have HE : Hid (giveB xs = varB (n : Int) ++ xs) := by show _ = _; unfold giveB; rw [h.len]
  clear h
  go_enter Tryd.func68, Tryd.ntmps68
  go_wp2_with fail
  refine key.mono ?_
  clear key
  rintro e w1 ⟨v1, rfl, ho, hb⟩
  have HO := Lib.hid ho
  have HRb := Lib.hid (HR.out.below hb).cell
  have HB := Lib.hid hb
  have l1 := Lib.hid (varB_len n)
  have s1 := Lib.hid (sizeV_le n)
  clear ho hb
  go_wp2_with (at_builtin; refine wp_app_u8 rfl _ _ rfl rfl rfl HO.out HRb.out HL.out HB.out.size (by have := l1.out; have := s1.out; omega) ?_)
  intro v5 w5 ho hg hb
  have HO5 := Lib.hid ho
  have HB5 := Lib.hid (HB.out.trans hb)
  clear ho hg hb
  go_wp2_with fail
  go_ret
  rw [HE.out]
  exact ⟨_, rfl, HO5.out, HB5.out⟩
end Go.Proofs.YtbfgoojpbhlboaaDoor
