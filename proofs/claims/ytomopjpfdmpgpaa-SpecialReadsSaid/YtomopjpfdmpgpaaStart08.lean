/- Own texts, one behind the other. Each bears its own remark. -/
import Derived.Test.YtomopjpfdmpgpaaCut
/- The reference's reader (package shibbolethref05): Need, Bytes, Number, Most. No condition. -/
set_option linter.unusedVariables false
set_option linter.unusedSimpArgs false
namespace Go.Proofs.Ytomopjpfdmpgpaa
open Go Go.RowKit

/-- Where a reader stands, and what went wrong. -/
structure ISt where
  at_ : Nat
  e : Int
def inNeed (s : ISt) (is : Bool) (e : Int) : ISt := if s.e = 0 ∧ is = false then ⟨s.at_, e⟩ else s
def inB (n : Nat) (s : ISt) (N : Int) : ISt := if s.e = 0 then (if (n : Int) - s.at_ < N then ⟨s.at_, 2⟩ else ⟨s.at_ + N.toNat, 0⟩) else s
/-- The reader's block, and the bytes behind it. -/
structure InAt (D : Nat) (W : World) (g : Nat) (A : Option Addr) (n c : Nat) (xs : List Int) (s : ISt) : Prop where
  blk : W.heap[g]? = some (.cells #[.slice A n c, .int .i64 s.at_, .int .i64 s.e] 105 (0, 0))
  rd : Rds D W .u8 A n c xs
  low : ∀ a, 0 < n → A = some a → a.block ≠ g
  le : s.at_ ≤ n
  base : D ≤ g
theorem in_other (w : World) {g i k : Nat} (v : Value) (h : k ≠ g) : (w.setCell ⟨g, i, none⟩ v).heap[k]? = w.heap[k]? := Below.heap_setCell w ⟨g, i, none⟩ v k h
theorem in_set {w : World} {g i : Nat} {cs : Array Value} {t : TypeId} {fr : Nat × Nat} (h : w.heap[g]? = some (.cells cs t fr)) (v : Value) : (w.setCell ⟨g, i, none⟩ v).heap[g]? = some (.cells (cs.setIfInBounds i v) t fr) := by
  rw [setCell_eq_setRow w g i cs t fr v h]
  exact setRow_heap w g _ _ t _ h
theorem Rds.setIn {B : Nat} {w : World} {k : IntKind} {A : Option Addr} {n c : Nat} {xs : List Int} (h : Rds B w k A n c xs) {g i : Nat} {v : Value} (hne : ∀ a, 0 < n → A = some a → a.block ≠ g) : Rds B (w.setCell ⟨g, i, none⟩ v) k A n c xs := by
  refine ⟨h.len, h.cap, h.max, fun j hj => ?_, fun p a e => ?_⟩
  · obtain ⟨ad, e, hc⟩ := h.cell j hj
    refine ⟨ad, e, ?_⟩
    rw [← hc]
    exact World.cell?_of_block (by rw [add_block]; exact in_other _ _ (hne ad (by have := h.len; omega) e))
  · have hk := h.safe p a e
    have hn := hne a p e
    refine ⟨by simp only [World.setCell, Array.size_modify]; exact hk.1, hk.2.imp id ?_⟩
    rintro ⟨cs, t, fr, q1, q2⟩
    exact ⟨cs, t, fr, (in_other _ _ hn).trans q1, q2⟩
theorem InAt.below {D : Nat} {W W' : World} {g : Nat} {A : Option Addr} {n c : Nat} {xs : List Int} {s : ISt} (h : InAt D W g A n c xs s) (hb : Below W.heap.size W W') : InAt D W' g A n c xs s :=
  ⟨(hb.block _ (lt_of_get h.blk)).trans h.blk, h.rd.below hb, h.low, h.le, h.base⟩
theorem InAt.set1 {D : Nat} {W : World} {g : Nat} {A : Option Addr} {n c : Nat} {xs : List Int} {s : ISt} (h : InAt D W g A n c xs s) {a : Nat} (ha : a ≤ n) : InAt D (W.setCell ⟨g, 1, none⟩ (.int .i64 a)) g A n c xs ⟨a, s.e⟩ :=
  ⟨in_set h.blk _, h.rd.setIn h.low, h.low, ha, h.base⟩
theorem InAt.set2 {D : Nat} {W : World} {g : Nat} {A : Option Addr} {n c : Nat} {xs : List Int} {s : ISt} (h : InAt D W g A n c xs s) (e : Int) : InAt D (W.setCell ⟨g, 2, none⟩ (.int .i64 e)) g A n c xs ⟨s.at_, e⟩ :=
  ⟨in_set h.blk _, h.rd.setIn h.low, h.low, h.le, h.base⟩
theorem InAt.cells {D : Nat} {W : World} {g : Nat} {A : Option Addr} {n c : Nat} {xs : List Int} {s : ISt} (h : InAt D W g A n c xs s) : W.cell? ⟨g, 0, none⟩ = some (.slice A n c) ∧ W.cell? ⟨g, 1, none⟩ = some (.int .i64 s.at_) ∧ W.cell? ⟨g, 2, none⟩ = some (.int .i64 s.e) ∧ ∀ i, W.frozen? ⟨g, i, none⟩ = false := by
  refine ⟨?_, ?_, ?_, fun i => by simp [World.frozen?, h.blk]⟩
  · rw [cell_of_row W _ 0 _ _ _ h.blk]; rfl
  · rw [cell_of_row W _ 1 _ _ _ h.blk]; rfl
  · rw [cell_of_row W _ 2 _ _ _ h.blk]; rfl
theorem InAt.to {D : Nat} {W : World} {g i : Nat} {A : Option Addr} {n c : Nat} {xs : List Int} {s : ISt} (h : InAt D W g A n c xs s) (v : Value) : Below D W (W.setCell ⟨g, i, none⟩ v) :=
  (Below.refl D W).setCell h.base v
theorem InAt.frmD {D : Nat} {W : World} {g : Nat} {A : Option Addr} {n c : Nat} {xs : List Int} {s : ISt} (h : InAt D W g A n c xs s) : D ≤ W.heap.size := Nat.le_trans h.base (Nat.le_of_lt (lt_of_get h.blk))
set_option maxHeartbeats 1600000 in
theorem in_need {D g : Nat} {A : Option Addr} {n c : Nat} {xs : List Int} {s : ISt} (is : Bool) (e : Int) (w : World) (h : InAt D w g A n c xs s) :
    Calls Try.prog 61 #[.pointer (some ⟨g, 0, none⟩), .bool is, .int .i64 e] w fun ε w' => ε = .returned (.tuple #[]) ∧ InAt D w' g A n c xs (inNeed s is e) ∧ Below D w w' := by
  obtain ⟨x0, x1, x2, xf⟩ := h.cells
  have f2 := xf 2
  have HI := Lib.hid h
  have HB := Lib.hid h.frmD
  clear h
  go_enter Try.func61, Try.ntmps61
  by_cases he : s.e = 0
  · have he' : (s.e == 0) = true := by simp [he]
    cases is with
    | true =>
      have HN : Hid (inNeed s true e = s) := by show _ = _; unfold inNeed; rw [if_neg (by simp)]
      clear he
      go_wp2_with fail
      go_end0
      exact ⟨rfl, by rw [HN.out]; exact HI.out, Below.refl _ _⟩
    | false =>
      have HN : Hid (inNeed s false e = ⟨s.at_, e⟩) := by show _ = _; unfold inNeed; rw [if_pos ⟨he, rfl⟩]
      clear he
      go_wp2_with fail
      go_end0
      exact ⟨rfl, by rw [HN.out]; exact HI.out.set2 e, HI.out.to _⟩
  · have he' : (s.e == 0) = false := by simp [he]
    have HN : Hid (inNeed s is e = s) := by show _ = _; unfold inNeed; rw [if_neg (by rintro ⟨q, -⟩; exact he q)]
    clear he
    go_wp2_with fail
    go_end0
    exact ⟨rfl, by rw [HN.out]; exact HI.out, Below.refl _ _⟩
theorem run_cut2 {A : Option Addr} {n c : Nat} (w : World) (s m : Nat) (hs : s ≤ m) (hm : m ≤ c) : (Instr.slice 22 (.slice A n c) (some (.int .i64 s)) (some (.int .i64 m)) none).run Try.prog w = .ok (.slice (cutA A s c) (m - s) (c - s)) w := by
  rw [run_slice_lh w 22 _ _ _ u8_slice .i64 .i64 (s : Int) (m : Int) (by omega) (by omega) (by omega), u8_sizeOf]
  simp only [Result.andThen_ok, sliced, Int.toNat_natCast, cutA]
theorem run_cut1 {A : Option Addr} {n c : Nat} (w : World) (s : Nat) (hs : s ≤ n) : (Instr.slice 22 (.slice A n c) (some (.int .i64 s)) none none).run Try.prog w = .ok (.slice (cutA A s c) (n - s) (c - s)) w := by
  rw [run_slice_l w 22 _ _ _ u8_slice .i64 (s : Int) (by omega) (by omega), u8_sizeOf]
  simp only [Result.andThen_ok, sliced, Int.toNat_natCast, cutA]
/-- What Bytes hands back. -/
def inOut (A : Option Addr) (c : Nat) (s : ISt) (n : Nat) (N : Int) : Value := if (inB n s N).e = 0 then .slice (cutA A s.at_ c) N.toNat (c - s.at_) else .slice none 0 0
set_option maxHeartbeats 3200000 in
set_option maxRecDepth 100000 in
theorem in_bytes {D g : Nat} {A : Option Addr} {n c : Nat} {xs : List Int} {s : ISt} (N : Nat) (hN : N ≤ 1000000) (w : World) (h : InAt D w g A n c xs s) :
    Calls Try.prog 72 #[.pointer (some ⟨g, 0, none⟩), .int .i64 N] w fun ε w' => ε = .returned (inOut A c s n N) ∧ InAt D w' g A n c xs (inB n s N) ∧ Below D w w' := by
  obtain ⟨x0, x1, x2, xf⟩ := h.cells
  have f2 := xf 2
  have f1 := xf 1
  have hcap := h.rd.cap
  have hmax := h.rd.max
  have hat := h.le
  have HI := Lib.hid h
  clear h xf
  go_enter Try.func72, Try.ntmps72
  by_cases he : s.e = 0
  · have he' : (s.e == 0) = true := by simp [he]
    by_cases hs : (n : Int) - s.at_ < N
    · have HN : Hid (inB n s N = ⟨s.at_, 2⟩) := by show _ = _; unfold inB; rw [if_pos he, if_pos hs]
      have hgt : (N : Int) > (n : Int) - s.at_ := hs
      clear he
      go_wp2_with fail
      go_region
      have HId := Lib.hid (HI.out.below ((Below.refl _ _).drew))
      have HD : Hid (Below D w w.drew) := (Below.refl _ _).drew
      have HI2 : Hid (InAt D (w.drew.setCell ⟨g, 2, none⟩ (.int .i64 2)) g A n c xs ⟨s.at_, 2⟩) := HId.out.set2 2
      have y2 := HI2.out.cells.2.2.1
      have HB2 : Hid (Below D w (w.drew.setCell ⟨g, 2, none⟩ (.int .i64 2))) := HD.out.trans (HId.out.to _)
      have HO : Hid (inOut A c s n N = .slice none 0 0) := by show _ = _; unfold inOut; rw [HN.out]; rfl
      clear hgt
      go_wp2_with fail
      go_ret
      exact ⟨by rw [HO.out]; rfl, by rw [HN.out]; exact HI2.out, HB2.out⟩
    · have HN : Hid (inB n s N = ⟨s.at_ + N, 0⟩) := by show _ = _; unfold inB; rw [if_pos he, if_neg hs, Int.toNat_natCast]
      have hgt : ¬ (n : Int) - s.at_ < N := hs
      have hle : s.at_ + N ≤ n := by omega
      clear hs
      go_wp2_with fail
      go_region
      have HId := Lib.hid (HI.out.below ((Below.refl _ _).drew))
      have HD : Hid (Below D w w.drew) := (Below.refl _ _).drew
      obtain ⟨W, hW⟩ : ∃ W, W = w.setCell ⟨g, 1, none⟩ (.int .i64 ((s.at_ : Int) + N)) := ⟨_, rfl⟩
      have HI2 : Hid (InAt D W g A n c xs ⟨s.at_ + N, 0⟩) := by
        have := HI.out.set1 (a := s.at_ + N) hle
        rw [he] at this
        rw [hW, show ((s.at_ : Int) + N) = ((s.at_ + N : Nat) : Int) from by push_cast; rfl]; exact this
      have HB2 : Hid (Below D w W) := by rw [hW]; exact HI.out.to _
      obtain ⟨y0, y1, y2, -⟩ := HI2.out.cells
      have HO : Hid (inOut A c s n N = .slice (cutA A s.at_ c) N (c - s.at_)) := by show _ = _; unfold inOut; rw [HN.out, if_pos rfl, Int.toNat_natCast]
      have hsub : (s.at_ : Int) + N - N = s.at_ := by omega
      clear hgt he
      have HI3 := Lib.hid (HI2.out.below (((Below.refl W.heap.size W).drew).drew))
      have HB3 : Hid (Below D w W.drew.drew) := (HB2.out.drew).drew
      go_wp2_with fail
      rw [← hW]
      clear hW HId HD HI HI2 HB2
      by_cases hcs : c = s.at_
      · subst hcs
        go_region
        clear y0 y1 y2 hsub
        go_wp2_with fail
        go_ret
        refine ⟨?_, by rw [HN.out]; exact HI3.out, HB3.out⟩
        rw [HO.out]
        unfold cutA
        simp
      · go_region
        clear y0 y1 y2 hsub
        go_wp2_with fail
        go_ret
        refine ⟨?_, by rw [HN.out]; exact HI3.out, HB3.out⟩
        rw [HO.out]
        unfold cutA
        rw [if_neg hcs]
        simp
  · have he' : (s.e == 0) = false := by simp [he]
    have he'' : (s.e != 0) = true := by simp [he]
    have HN : Hid (inB n s N = s) := by show _ = _; unfold inB; rw [if_neg he]
    have HO : Hid (inOut A c s n N = .slice none 0 0) := by show _ = _; unfold inOut; rw [HN.out, if_neg he]
    clear he
    go_wp2_with fail
    go_region
    have HId := Lib.hid (HI.out.below ((Below.refl _ _).drew))
    have HD : Hid (Below D w w.drew) := (Below.refl _ _).drew
    go_wp2_with fail
    go_ret
    exact ⟨by rw [HO.out]; rfl, by rw [HN.out]; exact HId.out, HD.out⟩
/-- The number of some bytes. -/
def beN (l : List Int) : Int := l.foldl (fun a x => 256 * a + x) 0
theorem beN_snoc (l : List Int) (x : Int) : beN (l ++ [x]) = 256 * beN l + x := by unfold beN; rw [List.foldl_append]; rfl
theorem beN_take {l : List Int} {k : Nat} (h : k < l.length) : beN (l.take (k + 1)) = 256 * beN (l.take k) + nth l k := by rw [take_nth_succ h, beN_snoc]
theorem beN_bound {l : List Int} (hb : Byt l) : ∀ k, k ≤ 4 → k ≤ l.length → 0 ≤ beN (l.take k) ∧ beN (l.take k) < 256 ^ k
  | 0, _, _ => by simp [beN]
  | k + 1, h4, hl => by
    have ih := beN_bound hb k (by omega) (by omega)
    rw [beN_take (by omega)]
    have := hb (nth l k) (nth_mem (by omega))
    rw [Int.pow_succ]
    omega
def inNum (xs : List Int) (s : ISt) (N : Nat) : Int := if (inB xs.length s N).e = 0 then beN ((xs.take (s.at_ + N)).drop s.at_) else 0
theorem inB_ok {n : Nat} {s : ISt} {N : Nat} (h : (inB n s N).e = 0) : s.e = 0 ∧ s.at_ + N ≤ n := by
  unfold inB at h
  by_cases h0 : s.e = 0
  · rw [if_pos h0] at h
    by_cases h1 : (n : Int) - s.at_ < N
    · rw [if_pos h1] at h; simp at h
    · exact ⟨h0, by omega⟩
  · rw [if_neg h0] at h; exact absurd h h0
theorem Byt.cut {xs : List Int} (h : Byt xs) (a b : Nat) : Byt ((xs.take b).drop a) := fun x hx => h x (List.mem_of_mem_take (List.mem_of_mem_drop hx))
set_option maxHeartbeats 3200000 in
set_option maxRecDepth 100000 in
theorem in_number {D g : Nat} {A : Option Addr} {n c : Nat} {xs : List Int} {s : ISt} (N : Nat) (hN : N ≤ 4) (w : World) (h : InAt D w g A n c xs s) (hb : Byt xs) :
    Calls Try.prog 62 #[.pointer (some ⟨g, 0, none⟩), .int .i64 N] w fun ε w' => ε = .returned (.int .i64 (inNum xs s N)) ∧ InAt D w' g A n c xs (inB n s N) ∧ Below D w w' := by
  have hlen := h.rd.len
  have hcap := h.rd.cap
  have hmax := h.rd.max
  have key := in_bytes N (by omega) w h
  have HBY := Lib.hid hb
  clear h hb
  by_cases he : (inB n s N).e = 0
  · obtain ⟨h0, h1⟩ := inB_ok he
    have hio : inOut A c s n N = .slice (cutA A s.at_ c) N (c - s.at_) := by unfold inOut; rw [if_pos he, Int.toNat_natCast]
    rw [hio] at key
    obtain ⟨ys, hys⟩ : ∃ ys, ys = (xs.take (s.at_ + N)).drop s.at_ := ⟨_, rfl⟩
    have hyl : ys.length = N := by rw [hys]; simp; omega
    have HN : Hid (inNum xs s N = beN (ys.take N)) := by show _ = _; unfold inNum; rw [hlen, if_pos he, ← hys, ← hyl, List.take_length]
    have HBd : Hid (∀ k, k ≤ N → 0 ≤ beN (ys.take k) ∧ beN (ys.take k) < 256 ^ k) := fun k hk => beN_bound (by rw [hys]; exact HBY.out.cut _ _) k (by omega) (by omega)
    have HBy : Hid (Byt ys) := by rw [hys]; exact HBY.out.cut _ _
    have HYS := Lib.hid hys
    obtain ⟨A', hA'⟩ : ∃ A', A' = cutA A s.at_ c := ⟨_, rfl⟩
    have HA' := Lib.hid hA'
    rw [← hA'] at key
    have hcc : N ≤ c - s.at_ := by omega
    obtain ⟨c', hc'⟩ : ∃ c', c' = c - s.at_ := ⟨_, rfl⟩
    rw [← hc'] at key hcc
    have HC' := Lib.hid hc'
    have HYL := Lib.hid hyl
    clear he hio hys hA' hc' hyl
    go_enter Try.func62, Try.ntmps62
    go_wp2_with fail
    refine key.mono ?_
    clear key
    rintro e w1 ⟨rfl, hi, hbl⟩
    have HI := Lib.hid hi
    have HB := Lib.hid hbl
    have HR : Hid (Rds D w1 .u8 A' N c' ys) := by
      have := hi.rd.cut2 (l := s.at_) (m := s.at_ + N) (by omega) h1
      rw [Nat.add_sub_cancel_left, ← HYS.out, ← HA'.out, ← HC'.out] at this
      exact this
    clear hi hbl
    go_wp2_with fail
    go_loop [6, 7] (fun v i => ∃ k : Nat, k ≤ N ∧ i = .int .i64 k ∧ v = .int .i64 (beN (ys.take k))) (fun _ i => N - (intOf i).toNat)
    case atStart => exact ⟨0, Nat.zero_le _, rfl, rfl⟩
    case round =>
      obtain ⟨k, hk, rfl, rfl⟩ := hrel
      by_cases hlt : k < N
      · obtain ⟨b, o, rfl, hcx⟩ := RdI.at_ HR.out.cell (by have := HYL.out; omega)
        have a0 := hcx k (by have := HYL.out; omega)
        have hsu := beN_take (l := ys) (k := k) (by have := HYL.out; omega)
        have hb1 := HBd.out k hk
        have hb2 := HBd.out (k + 1) hlt
        have hx := HBy.out (nth ys k) (nth_mem (by have := HYL.out; omega))
        rw [hsu] at hb2
        have hp : (256 : Int) ^ (k + 1) ≤ 4294967296 := by
          have : k + 1 = 1 ∨ k + 1 = 2 ∨ k + 1 = 3 ∨ k + 1 = 4 := by omega
          rcases this with e | e | e | e <;> rw [e] <;> decide
        obtain ⟨v, hv⟩ : ∃ v, v = beN (ys.take k) := ⟨_, rfl⟩
        obtain ⟨x, hxx⟩ : ∃ x, x = nth ys k := ⟨_, rfl⟩
        rw [← hv, ← hxx] at hsu hb2
        rw [← hv] at hb1 ⊢
        rw [← hxx] at a0 hx
        have HSU := Lib.hid hsu
        have hv1 : v ≤ 4294967296 := by omega
        clear hcx hsu hv hxx hp
        go_wp2_with fail
        go_round
        case rel => exact ⟨k + 1, by omega, by go_num, by rw [HSU.out]⟩
        case measure => simp [intOf]; omega
      · obtain rfl : k = N := by omega
        go_wp2_with fail
        go_ret
        exact ⟨by rw [HN.out]; rfl, HI.out, HB.out⟩
  · have hio : inOut A c s n N = .slice none 0 0 := by unfold inOut; rw [if_neg he]
    rw [hio] at key
    have HN : Hid (inNum xs s N = 0) := by show _ = _; unfold inNum; rw [hlen, if_neg he]
    clear he hio
    go_enter Try.func62, Try.ntmps62
    go_wp2_with fail
    refine key.mono ?_
    clear key
    rintro e w1 ⟨rfl, hi, hbl⟩
    have HI := Lib.hid hi
    have HB := Lib.hid hbl
    clear hi hbl
    go_wp2_with fail
    go_loop [6, 7] (fun v i => v = .int .i64 0 ∧ i = .int .i64 0) (fun _ _ => 0)
    case atStart => exact ⟨rfl, rfl⟩
    case round =>
      obtain ⟨rfl, rfl⟩ := hrel
      go_wp2_with fail
      go_ret
      exact ⟨by rw [HN.out]; rfl, HI.out, HB.out⟩
set_option maxHeartbeats 1600000 in
set_option maxRecDepth 100000 in
theorem in_most {D g : Nat} {A : Option Addr} {n c : Nat} {xs : List Int} {s : ISt} (N M : Nat) (hN : N ≤ 1000000) (w : World) (h : InAt D w g A n c xs s) :
    Calls Try.prog 63 #[.pointer (some ⟨g, 0, none⟩), .int .i64 N, .int .i64 M] w fun ε w' => ε = .returned (inOut A c (inNeed s (decide ((N : Int) ≤ M)) 4) n N) ∧ InAt D w' g A n c xs (inB n (inNeed s (decide ((N : Int) ≤ M)) 4) N) ∧ Below D w w' := by
  have HD : Hid (D ≤ w.heap.size) := h.frmD
  by_cases hNM : (N : Int) ≤ M
  · have key := in_need true 4 w h
    rw [decide_eq_true hNM]
    clear h
    obtain ⟨s1, hs1⟩ : ∃ s1, s1 = inNeed s true 4 := ⟨_, rfl⟩
    rw [← hs1] at key ⊢
    clear hs1
    go_enter Try.func63, Try.ntmps63
    go_wp2_with fail
    refine key.mono ?_
    clear key
    rintro e w1 ⟨rfl, hi, hbl⟩
    have HB := Lib.hid hbl
    have key := in_bytes N hN w1 hi
    clear hi hbl
    go_wp2_with fail
    refine key.mono ?_
    clear key
    rintro e w2 ⟨rfl, hi, hbl⟩
    have HI := Lib.hid hi
    have HB2 := Lib.hid (HB.out.trans hbl)
    clear hi hbl
    go_wp2_with fail
    go_ret
    exact ⟨rfl, HI.out, HB2.out⟩
  · have key := in_need false 4 w h
    rw [decide_eq_false hNM]
    clear h
    obtain ⟨s1, hs1⟩ : ∃ s1, s1 = inNeed s false 4 := ⟨_, rfl⟩
    rw [← hs1] at key ⊢
    clear hs1
    go_enter Try.func63, Try.ntmps63
    go_wp2_with fail
    refine key.mono ?_
    clear key
    rintro e w1 ⟨rfl, hi, hbl⟩
    have HB := Lib.hid hbl
    have key := in_bytes N hN w1 hi
    clear hi hbl
    go_wp2_with fail
    refine key.mono ?_
    clear key
    rintro e w2 ⟨rfl, hi, hbl⟩
    have HI := Lib.hid hi
    have HB2 := Lib.hid (HB.out.trans hbl)
    clear hi hbl
    go_wp2_with fail
    go_ret
    exact ⟨rfl, HI.out, HB2.out⟩
end Go.Proofs.Ytomopjpfdmpgpaa

/- The reference of layer 8: start. No condition. -/
set_option linter.unusedVariables false
set_option linter.unusedSimpArgs false
namespace Go.Proofs.Ytomopjpfdmpgpaa
open Go Go.RowKit

theorem inB_e0 {n : Nat} {s : ISt} {N : Nat} : (inB n s N).e = 0 ↔ s.e = 0 ∧ s.at_ + N ≤ n := by
  constructor
  · exact inB_ok
  · rintro ⟨a, b⟩
    unfold inB
    rw [if_pos a, if_neg (by omega)]
theorem inB_at {n : Nat} {s : ISt} {N : Nat} (h : (inB n s N).e = 0) : (inB n s N).at_ = s.at_ + N := by
  obtain ⟨a, b⟩ := inB_ok h
  unfold inB
  rw [if_pos a, if_neg (by omega)]
  simp
theorem inNeed_e0 {s : ISt} {b : Bool} {e : Int} (he : e ≠ 0) : (inNeed s b e).e = 0 ↔ s.e = 0 ∧ b = true := by
  unfold inNeed
  by_cases h : s.e = 0
  · cases b with
    | true => simp [h]
    | false => simp [h, he]
  · simp [h]
theorem inNeed_at (s : ISt) (b : Bool) (e : Int) : (inNeed s b e).at_ = s.at_ := by unfold inNeed; split <;> rfl
theorem results_tmp5 {fn : Func} {t u v x y : Tmp} (h : fn.results = #[.tmp t, .tmp u, .tmp v, .tmp x, .tmp y]) (tmps : Array Value) (P : Program) (w : World) :
    (results fn tmps).run P w = .ok (.tuple #[tmps.getD t undef, tmps.getD u undef, tmps.getD v undef, tmps.getD x undef, tmps.getD y undef]) w := by
  simp [results, h]
/-- What a packet's first bytes say: its version, both names, what stands behind them. -/
structure Hd where
  v : Int
  tn : List Int
  fn : List Int
  rs : List Int
def cutL (xs : List Int) (a k : Nat) : List Int := (xs.take (a + k)).drop a
def startOk (xs : List Int) (f : Int) : Prop :=
  7 ≤ xs.length ∧ nth xs 0 = f ∧ nth xs 5 ≤ 20 ∧ 7 + (nth xs 5).toNat ≤ xs.length ∧ nth xs (6 + (nth xs 5).toNat) ≤ 20 ∧ 7 + (nth xs 5).toNat + (nth xs (6 + (nth xs 5).toNat)).toNat ≤ xs.length
instance (xs : List Int) (f : Int) : Decidable (startOk xs f) := inferInstanceAs (Decidable (_ ∧ _ ∧ _ ∧ _ ∧ _ ∧ _))
def startP (xs : List Int) (f : Int) : Option Hd := if startOk xs f then some ⟨beN (cutL xs 1 4), cutL xs 6 (nth xs 5).toNat, cutL xs (7 + (nth xs 5).toNat) (nth xs (6 + (nth xs 5).toNat)).toNat, xs.drop (7 + (nth xs 5).toNat + (nth xs (6 + (nth xs 5).toNat)).toNat)⟩ else none
theorem beN_one {xs : List Int} {a : Nat} (h : a < xs.length) : beN ((xs.take (a + 1)).drop a) = nth xs a := by
  have : (xs.take (a + 1)).drop a = [nth xs a] := by
    rw [take_nth_succ h, List.drop_append_of_le_length (by simp; omega)]
    simp
  rw [this]; simp [beN]
theorem cutL_len {xs : List Int} {a k : Nat} (h : a + k ≤ xs.length) : (cutL xs a k).length = k := by unfold cutL; simp; omega
/-- The slice lies off the rows from q up to D. -/
def Away (q D : Nat) (A : Option Addr) (n : Nat) : Prop := ∀ a, 0 < n → A = some a → a.block < q ∨ D ≤ a.block
theorem cutA_away {q D : Nat} {A : Option Addr} {n m s c : Nat} (h : ∀ a, 0 < n → A = some a → a.block < q) (hm : m ≤ n) : Away q D (cutA A s c) m := by
  intro a p e
  unfold cutA at e
  split at e
  · exact .inl (h a (by omega) e)
  · cases A with
    | none => cases e
    | some a0 =>
      simp only [Option.map_some] at e
      obtain rfl := Option.some.inj e
      rw [add_block]
      exact .inl (h a0 (by omega) rfl)
def HdPost (q D : Nat) (r : Option Hd) (w : World) (e : Ending) (w' : World) : Prop :=
  Below D w w' ∧ match r with
    | some h => ∃ A1 c1 A2 c2 A3 c3, e = .returned (.tuple #[.int .i64 h.v, .slice A1 h.tn.length c1, .slice A2 h.fn.length c2, .slice A3 h.rs.length c3, .bool true]) ∧ Rds D w' .u8 A1 h.tn.length c1 h.tn ∧ Rds D w' .u8 A2 h.fn.length c2 h.fn ∧ Rds D w' .u8 A3 h.rs.length c3 h.rs ∧ Away q D A1 h.tn.length ∧ Away q D A2 h.fn.length ∧ Away q D A3 h.rs.length
    | none => ∃ v A1 n1 c1 A2 n2 c2 A3 n3 c3, e = .returned (.tuple #[.int .i64 v, .slice A1 n1 c1, .slice A2 n2 c2, .slice A3 n3 c3, .bool false])
theorem HdPost.no {q D : Nat} {xs : List Int} {f : Int} {w w' : World} {v : Int} {A1 A2 A3 : Option Addr} {n1 n2 n3 c1 c2 c3 : Nat} (h : ¬ startOk xs f) (hb : Below D w w') : HdPost q D (startP xs f) w (.returned (.tuple #[.int .i64 v, .slice A1 n1 c1, .slice A2 n2 c2, .slice A3 n3 c3, .bool false])) w' := by
  unfold startP
  rw [if_neg h]
  exact ⟨hb, _, _, _, _, _, _, _, _, _, _, rfl⟩
theorem HdPost.yes {q D n c : Nat} {A : Option Addr} {xs : List Int} {f : Int} {w w' : World} (h : startOk xs f) (hb : Below D w w') (hr : Rds D w' .u8 A n c xs) (hq : ∀ a, 0 < n → A = some a → a.block < q) {k1 k2 : Nat} (h1 : k1 = (nth xs 5).toNat) (h2 : k2 = (nth xs (6 + (nth xs 5).toNat)).toNat) :
    HdPost q D (startP xs f) w (.returned (.tuple #[.int .i64 (beN (cutL xs 1 4)), .slice (cutA A 6 c) k1 (c - 6), .slice (cutA A (7 + k1) c) k2 (c - (7 + k1)), .slice (cutA A (7 + k1 + k2) c) (n - (7 + k1 + k2)) (c - (7 + k1 + k2)), .bool true])) w' := by
  have hok := h
  obtain ⟨l1, l2, l3, l4, l5, l6⟩ := h
  unfold startP
  rw [if_pos hok]
  have hlen := hr.len
  rw [← h1] at l4 l5 l6 h2 ⊢
  rw [← h2] at l6 ⊢
  have e1 : (cutL xs 6 k1).length = k1 := cutL_len (by omega)
  have e2 : (cutL xs (7 + k1) k2).length = k2 := cutL_len (by omega)
  have e3 : (xs.drop (7 + k1 + k2)).length = n - (7 + k1 + k2) := by simp; omega
  refine ⟨hb, cutA A 6 c, c - 6, cutA A (7 + k1) c, c - (7 + k1), cutA A (7 + k1 + k2) c, c - (7 + k1 + k2), ?_, ?_, ?_, ?_, by simp only [e1]; exact cutA_away hq (by omega), by simp only [e2]; exact cutA_away hq (by omega), by simp only [e3]; exact cutA_away hq (by omega)⟩
  · simp only [e1, e2, e3]
  · simp only [e1]
    have := hr.cut2 (l := 6) (m := 6 + k1) (by omega) (by omega)
    rw [Nat.add_sub_cancel_left] at this
    exact this
  · simp only [e2]
    have := hr.cut2 (l := 7 + k1) (m := 7 + k1 + k2) (by omega) (by omega)
    rw [Nat.add_sub_cancel_left] at this
    exact this
  · simp only [e3]
    exact hr.cut (by omega)
/-- The reader's states, one behind the other. -/
structure StS (xs : List Int) (f : Int) (s1 s2 s3 s4 s5 s6 s7 s8 s9 : ISt) (c1 c2 : Int) : Prop where
  e1 : s1 = inB xs.length ⟨0, 0⟩ 1
  e2 : s2 = inNeed s1 (decide (inNum xs ⟨0, 0⟩ 1 = f)) 3
  e3 : s3 = inB xs.length s2 4
  k1 : c1 = inNum xs s3 1
  e4 : s4 = inB xs.length s3 1
  e5 : s5 = inNeed s4 (decide (c1 ≤ 20)) 4
  e6 : s6 = inB xs.length s5 c1
  k2 : c2 = inNum xs s6 1
  e7 : s7 = inB xs.length s6 1
  e8 : s8 = inNeed s7 (decide (c2 ≤ 20)) 4
  e9 : s9 = inB xs.length s8 c2
theorem inNum_ok {xs : List Int} {s : ISt} {N : Nat} (h : (inB xs.length s N).e = 0) : inNum xs s N = beN ((xs.take (s.at_ + N)).drop s.at_) := if_pos h
theorem inNum_one {xs : List Int} {s : ISt} (h : (inB xs.length s (1 : Nat)).e = 0) : inNum xs s 1 = nth xs s.at_ := by
  have := inB_ok h
  rw [inNum_ok h, beN_one (by omega)]
theorem inNum_nn {xs : List Int} (hb : Byt xs) (s : ISt) : 0 ≤ inNum xs s 1 ∧ inNum xs s 1 ≤ 255 := by
  by_cases h : (inB xs.length s (1 : Nat)).e = 0
  · have h1 := inB_ok h
    rw [inNum_one h]
    exact hb _ (nth_mem (by omega))
  · unfold inNum; rw [if_neg h]; exact ⟨Int.le_refl _, by decide⟩
/-- Where all goes well. -/
theorem StS.all {xs : List Int} {f : Int} {s1 s2 s3 s4 s5 s6 s7 s8 s9 : ISt} {c1 c2 : Int} (h : StS xs f s1 s2 s3 s4 s5 s6 s7 s8 s9 c1 c2) (hb : Byt xs) : (s9.e = 0 → startOk xs f ∧ s2.at_ = 1 ∧ s3.e = 0 ∧ s5.at_ = 6 ∧ s6.e = 0 ∧ s8.at_ = 7 + c1.toNat ∧ s9.at_ = 7 + c1.toNat + c2.toNat ∧ c1.toNat = (nth xs 5).toNat ∧ c2.toNat = (nth xs (6 + (nth xs 5).toNat)).toNat) ∧ (startOk xs f → s9.e = 0) := by
  have n1 : c1 = (c1.toNat : Nat) := by have := inNum_nn hb s3; rw [← h.k1] at this; omega
  have n2 : c2 = (c2.toNat : Nat) := by have := inNum_nn hb s6; rw [← h.k2] at this; omega
  have i9 : s9.e = 0 ↔ s8.e = 0 ∧ s8.at_ + c2.toNat ≤ xs.length := by
    have := @inB_e0 xs.length s8 c2.toNat
    rw [← n2, ← h.e9] at this; exact this
  have i8 : s8.e = 0 ↔ s7.e = 0 ∧ c2 ≤ 20 := by rw [h.e8, inNeed_e0 (by decide), decide_eq_true_eq]
  have a8 : s8.at_ = s7.at_ := by rw [h.e8, inNeed_at]
  have i7 : s7.e = 0 ↔ s6.e = 0 ∧ s6.at_ + 1 ≤ xs.length := by
    have := @inB_e0 xs.length s6 1
    rw [show ((1 : Nat) : Int) = 1 from rfl, ← h.e7] at this; exact this
  have i6 : s6.e = 0 ↔ s5.e = 0 ∧ s5.at_ + c1.toNat ≤ xs.length := by
    have := @inB_e0 xs.length s5 c1.toNat
    rw [← n1, ← h.e6] at this; exact this
  have i5 : s5.e = 0 ↔ s4.e = 0 ∧ c1 ≤ 20 := by rw [h.e5, inNeed_e0 (by decide), decide_eq_true_eq]
  have a5 : s5.at_ = s4.at_ := by rw [h.e5, inNeed_at]
  have i4 : s4.e = 0 ↔ s3.e = 0 ∧ s3.at_ + 1 ≤ xs.length := by
    have := @inB_e0 xs.length s3 1
    rw [show ((1 : Nat) : Int) = 1 from rfl, ← h.e4] at this; exact this
  have i3 : s3.e = 0 ↔ s2.e = 0 ∧ s2.at_ + 4 ≤ xs.length := by
    have := @inB_e0 xs.length s2 4
    rw [show ((4 : Nat) : Int) = 4 from rfl, ← h.e3] at this; exact this
  have i2 : s2.e = 0 ↔ s1.e = 0 ∧ inNum xs ⟨0, 0⟩ 1 = f := by rw [h.e2, inNeed_e0 (by decide), decide_eq_true_eq]
  have a2 : s2.at_ = s1.at_ := by rw [h.e2, inNeed_at]
  have i1 : s1.e = 0 ↔ 1 ≤ xs.length := by
    have := @inB_e0 xs.length ⟨0, 0⟩ 1
    rw [show ((1 : Nat) : Int) = 1 from rfl, ← h.e1] at this
    rw [this]; simp
  have b1 : s1.e = 0 → s1.at_ = 1 := fun q => by
    have := @inB_at xs.length ⟨0, 0⟩ 1
    rw [show ((1 : Nat) : Int) = 1 from rfl, ← h.e1] at this; simpa using this q
  have b3 : s3.e = 0 → s3.at_ = s2.at_ + 4 := fun q => by
    have := @inB_at xs.length s2 4
    rw [show ((4 : Nat) : Int) = 4 from rfl, ← h.e3] at this; exact this q
  have b4 : s4.e = 0 → s4.at_ = s3.at_ + 1 := fun q => by
    have := @inB_at xs.length s3 1
    rw [show ((1 : Nat) : Int) = 1 from rfl, ← h.e4] at this; exact this q
  have b6 : s6.e = 0 → s6.at_ = s5.at_ + c1.toNat := fun q => by
    have := @inB_at xs.length s5 c1.toNat
    rw [← n1, ← h.e6] at this; exact this q
  have b7 : s7.e = 0 → s7.at_ = s6.at_ + 1 := fun q => by
    have := @inB_at xs.length s6 1
    rw [show ((1 : Nat) : Int) = 1 from rfl, ← h.e7] at this; exact this q
  have v1 : s1.e = 0 → inNum xs ⟨0, 0⟩ 1 = nth xs 0 := fun q => inNum_one (s := ⟨0, 0⟩) (by rw [show ((1 : Nat) : Int) = 1 from rfl, ← h.e1]; exact q)
  have v4 : s4.e = 0 → c1 = nth xs s3.at_ := fun q => by rw [h.k1]; exact inNum_one (by rw [show ((1 : Nat) : Int) = 1 from rfl, ← h.e4]; exact q)
  have v7 : s7.e = 0 → c2 = nth xs s6.at_ := fun q => by rw [h.k2]; exact inNum_one (by rw [show ((1 : Nat) : Int) = 1 from rfl, ← h.e7]; exact q)
  unfold startOk
  constructor
  · intro q9
    obtain ⟨q8, l9⟩ := i9.1 q9
    obtain ⟨q7, l8⟩ := i8.1 q8
    obtain ⟨q6, l7⟩ := i7.1 q7
    obtain ⟨q5, l6⟩ := i6.1 q6
    obtain ⟨q4, l5⟩ := i5.1 q5
    obtain ⟨q3, l4⟩ := i4.1 q4
    obtain ⟨q2, l3⟩ := i3.1 q3
    obtain ⟨q1, l2⟩ := i2.1 q2
    have := b1 q1; have := b3 q3; have := b4 q4; have := b6 q6; have := b7 q7
    have e5 : s3.at_ = 5 := by omega
    have e6 : s6.at_ = 6 + c1.toNat := by omega
    have w4 := v4 q4
    have w7 := v7 q7
    rw [e5] at w4
    rw [e6] at w7
    rw [← w4, ← w7]
    have b9 : s9.at_ = s8.at_ + c2.toNat := by
      have := @inB_at xs.length s8 c2.toNat
      rw [← n2, ← h.e9] at this; exact this q9
    exact ⟨⟨by omega, by rw [← v1 q1]; exact l2, l5, by omega, l8, by omega⟩, by omega, q3, by omega, q6, by omega, by omega, rfl, rfl⟩
  · rintro ⟨l1, l2, l3, l4, l5, l6⟩
    have q1 := i1.2 (by omega)
    have q2 := i2.2 ⟨q1, by rw [v1 q1]; exact l2⟩
    have := b1 q1
    have q3 := i3.2 ⟨q2, by omega⟩
    have := b3 q3
    have q4 := i4.2 ⟨q3, by omega⟩
    have := b4 q4
    have e5 : s3.at_ = 5 := by omega
    have w4 := v4 q4
    rw [e5] at w4
    rw [← w4] at l3 l4 l5 l6
    have q5 := i5.2 ⟨q4, l3⟩
    have q6 := i6.2 ⟨q5, by omega⟩
    have := b6 q6
    have q7 := i7.2 ⟨q6, by omega⟩
    have := b7 q7
    have e6 : s6.at_ = 6 + c1.toNat := by omega
    have w7 := v7 q7
    rw [e6] at w7
    rw [← w7] at l5 l6
    have q8 := i8.2 ⟨q7, l5⟩
    exact i9.2 ⟨q8, by omega⟩
set_option maxHeartbeats 6400000 in
set_option maxRecDepth 100000 in
theorem start08_any {q D n c : Nat} {A : Option Addr} {xs : List Int} (f : Int) (hf0 : 0 ≤ f) (hf1 : f ≤ 255) (w : World) (hD : D ≤ w.heap.size) (h : Rds D w .u8 A n c xs) (hq : ∀ a, 0 < n → A = some a → a.block < q) (hb : Byt xs) :
    Calls Try.prog 36 #[.slice A n c, .int .u8 f] w (HdPost q D (startP xs f) w) := by
  have hlen := h.len
  have HR := Lib.hid h
  have HBY := Lib.hid hb
  have HDD := Lib.hid hD
  have HQ := Lib.hid hq
  clear h hb hD hq
  go_enter Try.func36, Try.ntmps36
  go_wp2_with fail
  have hIn : InAt D (w.alloc (.cells #[.slice A n c, .int .i64 0, .int .i64 0] 105)) w.heap.size A n c xs ⟨0, 0⟩ :=
    ⟨heap_alloc_new w _, HR.out.below ((Below.refl _ _).alloc (Nat.le_refl _) _), fun a p e => by have := (HR.out.safe p a e).1; omega, Nat.zero_le _, HDD.out⟩
  have key := in_number 1 (by decide) _ hIn HBY.out
  have HB0 : Hid (Below D w (w.alloc (.cells #[.slice A n c, .int .i64 0, .int .i64 0] 105))) := (Below.refl D w).alloc HDD.out _
  clear hIn
  obtain ⟨v1, hv1⟩ : ∃ v, v = inNum xs ⟨0, 0⟩ 1 := ⟨_, rfl⟩
  obtain ⟨s1, h1⟩ : ∃ s, s = inB n ⟨0, 0⟩ (1 : Nat) := ⟨_, rfl⟩
  rw [← hv1, ← h1] at key
  have V1 := Lib.hid hv1
  have E1 := Lib.hid h1
  clear hv1 h1
  refine key.mono ?_
  clear key
  rintro e w1 ⟨rfl, hi, hbl⟩
  have HB1 := Lib.hid (HB0.out.trans hbl)
  clear hbl HB0
  have HI := Lib.hid hi
  clear hi
  go_wp2_with fail
  have key := in_need (decide (v1 = f)) 3 w1 HI.out
  obtain ⟨s2, h2⟩ : ∃ s, s = inNeed s1 (decide (v1 = f)) 3 := ⟨_, rfl⟩
  rw [← h2] at key
  have E2 := Lib.hid h2
  clear h2 HI
  rw [show (v1 == f) = decide (v1 = f) from rfl]
  refine key.mono ?_
  clear key
  rintro e w2 ⟨rfl, hi, hbl⟩
  have HB2 := Lib.hid (HB1.out.trans hbl)
  clear hbl HB1
  have key := in_number 4 (by decide) _ hi HBY.out
  clear hi
  obtain ⟨v, hv⟩ : ∃ v, v = inNum xs s2 4 := ⟨_, rfl⟩
  obtain ⟨s3, h3⟩ : ∃ s, s = inB n s2 (4 : Nat) := ⟨_, rfl⟩
  rw [← hv, ← h3] at key
  have V2 := Lib.hid hv
  have E3 := Lib.hid h3
  clear hv h3
  go_wp2_with fail
  refine key.mono ?_
  clear key
  rintro e w3 ⟨rfl, hi, hbl⟩
  have HB3 := Lib.hid (HB2.out.trans hbl)
  clear hbl HB2
  have key := in_number 1 (by decide) _ hi HBY.out
  clear hi
  obtain ⟨k1, hk1⟩ : ∃ k : Nat, inNum xs s3 1 = k := ⟨(inNum xs s3 1).toNat, by have := inNum_nn HBY.out s3; omega⟩
  have hb1 : k1 ≤ 255 := by have := inNum_nn HBY.out s3; omega
  obtain ⟨s4, h4⟩ : ∃ s, s = inB n s3 (1 : Nat) := ⟨_, rfl⟩
  rw [hk1, ← h4] at key
  have K1 := Lib.hid hk1
  have E4 := Lib.hid h4
  clear hk1 h4
  go_wp2_with fail
  refine key.mono ?_
  clear key
  rintro e w4 ⟨rfl, hi, hbl⟩
  have HB4 := Lib.hid (HB3.out.trans hbl)
  clear hbl HB3
  have key := in_most k1 20 (by omega) w4 hi
  clear hi
  obtain ⟨s5, h5⟩ : ∃ s, s = inNeed s4 (decide ((k1 : Int) ≤ (20 : Nat))) 4 := ⟨_, rfl⟩
  obtain ⟨s6, h6⟩ : ∃ s, s = inB n s5 k1 := ⟨_, rfl⟩
  rw [← h5, ← h6] at key
  have E5 := Lib.hid h5
  have E6 := Lib.hid h6
  obtain ⟨P, A1, n1, c1, hP, hP'⟩ : ∃ P A1 n1 c1, inOut A c s5 n k1 = P ∧ P = .slice A1 n1 c1 := by
    unfold inOut
    by_cases hq : (inB n s5 k1).e = 0
    · rw [if_pos hq]; exact ⟨_, _, _, _, rfl, rfl⟩
    · rw [if_neg hq]; exact ⟨_, _, _, _, rfl, rfl⟩
  rw [hP, hP'] at key
  have P1 := Lib.hid (hP.trans hP')
  clear hP hP' h5 h6
  go_wp2_with fail
  refine key.mono ?_
  clear key
  rintro e w6 ⟨rfl, hi, hbl⟩
  have HB6 := Lib.hid (HB4.out.trans hbl)
  clear hbl HB4
  have key := in_number 1 (by decide) _ hi HBY.out
  clear hi
  obtain ⟨k2, hk2⟩ : ∃ k : Nat, inNum xs s6 1 = k := ⟨(inNum xs s6 1).toNat, by have := inNum_nn HBY.out s6; omega⟩
  have hb2 : k2 ≤ 255 := by have := inNum_nn HBY.out s6; omega
  obtain ⟨s7, h7⟩ : ∃ s, s = inB n s6 (1 : Nat) := ⟨_, rfl⟩
  rw [hk2, ← h7] at key
  have K2 := Lib.hid hk2
  have E7 := Lib.hid h7
  clear hk2 h7
  go_wp2_with fail
  refine key.mono ?_
  clear key
  rintro e w7 ⟨rfl, hi, hbl⟩
  have HB7 := Lib.hid (HB6.out.trans hbl)
  clear hbl HB6
  have key := in_most k2 20 (by omega) w7 hi
  clear hi
  obtain ⟨s8, h8⟩ : ∃ s, s = inNeed s7 (decide ((k2 : Int) ≤ (20 : Nat))) 4 := ⟨_, rfl⟩
  obtain ⟨s9, h9⟩ : ∃ s, s = inB n s8 k2 := ⟨_, rfl⟩
  rw [← h8, ← h9] at key
  have E8 := Lib.hid h8
  have E9 := Lib.hid h9
  obtain ⟨P, A2, n2, c2, hP, hP'⟩ : ∃ P A1 n1 c1, inOut A c s8 n k2 = P ∧ P = .slice A1 n1 c1 := by
    unfold inOut
    by_cases hq : (inB n s8 k2).e = 0
    · rw [if_pos hq]; exact ⟨_, _, _, _, rfl, rfl⟩
    · rw [if_neg hq]; exact ⟨_, _, _, _, rfl, rfl⟩
  rw [hP, hP'] at key
  have P2 := Lib.hid (hP.trans hP')
  clear hP hP' h8 h9
  go_wp2_with fail
  refine key.mono ?_
  clear key
  rintro e w9 ⟨rfl, hi, hbl⟩
  have HB9 := Lib.hid (HB7.out.trans hbl)
  clear hbl HB7
  obtain ⟨x0, x1, x2, xf⟩ := hi.cells
  have HI := Lib.hid hi
  have hat := hi.le
  have hcc := hi.rd.cap
  have hmax := hi.rd.max
  clear hi xf x0
  have HS : Hid (StS xs f s1 s2 s3 s4 s5 s6 s7 s8 s9 k1 k2) := by
    refine ⟨?_, ?_, ?_, ?_, ?_, ?_, ?_, ?_, ?_, ?_, ?_⟩
    · rw [hlen]; exact E1.out
    · rw [← V1.out]; exact E2.out
    · rw [hlen]; exact E3.out
    · exact K1.out.symm
    · rw [hlen]; exact E4.out
    · exact E5.out
    · rw [hlen]; exact E6.out
    · exact K2.out.symm
    · rw [hlen]; exact E7.out
    · exact E8.out
    · rw [hlen]; exact E9.out
  by_cases he : s9.e = 0
  · obtain ⟨hok, q2, q3, q5, q6, q8, q9, r1, r2⟩ := (HS.out.all HBY.out).1 he
    have he' : (s9.e != 0) = false := by simp [he]
    have hv : v = beN (cutL xs 1 4) := by
      rw [V2.out, inNum_ok (by rw [hlen, ← E3.out]; exact q3), q2]; rfl
    have hp1 : Value.slice (cutA A 6 c) k1 (c - 6) = Value.slice A1 n1 c1 := by
      rw [← P1.out]; unfold inOut
      rw [if_pos (by rw [← E6.out]; exact q6), q5, Int.toNat_natCast]
    have hp2 : Value.slice (cutA A (7 + k1) c) k2 (c - (7 + k1)) = Value.slice A2 n2 c2 := by
      rw [← P2.out]; unfold inOut
      rw [if_pos (by rw [← E9.out]; exact he), q8, Int.toNat_natCast, Int.toNat_natCast]
    rw [Int.toNat_natCast] at q9 r1
    rw [Int.toNat_natCast] at q9 r2
    have HY : Hid (HdPost q D (startP xs f) w (.returned (.tuple #[.int .i64 v, .slice A1 n1 c1, .slice A2 n2 c2, .slice (cutA A s9.at_ c) (n - s9.at_) (c - s9.at_), .bool true])) w9.drew) := by
      rw [← hp1, ← hp2, hv, q9]
      exact HdPost.yes hok HB9.out.drew (HI.out.rd.below ((Below.refl _ _).drew)) HQ.out r1 r2
    clear hok q2 q3 q5 q6 q8 q9 r1 r2 hv hp1 hp2 he
    obtain ⟨sa, hsa⟩ : ∃ sa, s9.at_ = sa := ⟨_, rfl⟩
    rw [hsa] at x1 hat HY
    clear hsa
    by_cases hcs : c = sa
    · subst hcs
      go_wp2_with fail
      go_region
      go_wp2_with fail
      refine bodyPost_ret (results_tmp5 rfl _ _ _) rfl ?_
      have hY := HY.out
      rw [show n - c = 0 from by omega, Nat.sub_self, show cutA A c c = A from by simp [cutA]] at hY
      exact hY
    · go_wp2_with fail
      go_region
      go_wp2_with fail
      refine bodyPost_ret (results_tmp5 rfl _ _ _) rfl ?_
      have hY := HY.out
      unfold cutA at hY
      rw [if_neg hcs, Nat.mul_one] at hY
      exact hY
  · have hno : Hid (¬ startOk xs f) := fun q => he ((HS.out.all HBY.out).2 q)
    have he' : (s9.e != 0) = true := by simp [he]
    clear he
    go_wp2_with fail
    refine bodyPost_ret (results_tmp5 rfl _ _ _) rfl ?_
    exact HdPost.no hno.out HB9.out
end Go.Proofs.Ytomopjpfdmpgpaa
