/- The program's layer 7: the versions' method. No condition. -/
import Derived.Test.YtbfgoojpbhlboaaDoorParSet
import Derived.Test.YtbfgoojpbhlboaaDoorCollect
set_option linter.unusedVariables false
set_option linter.unusedSimpArgs false
namespace Go.Proofs.YtbfgoojpbhlboaaDoor
open Go Go.RowKit

/-- A number's first bytes. -/
def beQ (xs : List Int) (k : Nat) : Nat → Int
  | 0 => 0
  | q + 1 => beQ xs k q * 256 + nth xs (4 * k + q)
theorem beQ_four (xs : List Int) (k : Nat) : beQ xs k 4 = be4at xs k := by
  simp only [beQ, be4at, Nat.add_zero]
  omega
theorem beQ_bound {xs : List Int} (hb : Byt xs) (k : Nat) : ∀ q, q ≤ 4 → 0 ≤ beQ xs k q ∧ beQ xs k q < 256 ^ q
  | 0, _ => by simp [beQ]
  | q + 1, h => by
    have ih := beQ_bound hb k q (by omega)
    have h1 := hb.nth (4 * k + q)
    have e : (256 : Int) ^ (q + 1) = 256 ^ q * 256 := Int.pow_succ _ _
    rw [e]
    simp only [beQ]
    omega
def VCs (p : Par) (s : ParS) (ch : Int) (v : Value) : Array Value := #[.int .i64 p.idle, .int .i64 p.data, .bool p.hg, .bool p.ho, .bool p.hr, .slice s.gA p.goal.length s.gc, .slice s.oA p.own.length s.oc, .slice s.rA p.retry.length s.rc, .int .i64 ch, v]
def vsK (xs : List Int) (k : Nat) : List Int := ((versL xs).take k).tail
def chK (p : Par) (xs : List Int) (k : Nat) : Int := if k = 0 then p.chosen else nth (versL xs) 0
theorem vsK_zero (xs : List Int) : vsK xs 0 = [] := rfl
theorem vsK_one (xs : List Int) : vsK xs 1 = [] := by unfold vsK; cases versL xs <;> rfl
theorem versL_nth {xs : List Int} {k : Nat} (h : k < xs.length / 4) : nth (versL xs) k = be4at xs k := by simp [nth, versL, h]
theorem vsK_succ {xs : List Int} {k : Nat} (h0 : 0 < k) (h : k < xs.length / 4) : vsK xs (k + 1) = vsK xs k ++ [be4at xs k] := by
  have hl : k < (versL xs).length := by rw [versL_len]; exact h
  unfold vsK
  rw [take_nth_succ hl]
  have e : nth (versL xs) k = be4at xs k := by simp [nth, versL, h]
  rw [e]
  have hp : 0 < ((versL xs).take k).length := by simp; omega
  cases hh : (versL xs).take k with
  | nil => rw [hh] at hp; simp at hp
  | cons a r => rfl
theorem vsK_all (xs : List Int) : vsK xs (xs.length / 4) = (versL xs).tail := by unfold vsK; rw [List.take_of_length_le (by rw [versL_len]; exact Nat.le_refl _)]
theorem vsK_len {xs : List Int} {k : Nat} : (vsK xs k).length ≤ k := by unfold vsK; simp; omega
/-- What stands between two rounds. -/
def VI (w : World) (g : Nat) (p : Par) (s : ParS) (xs : List Int) (k : Nat) (W : World) : Prop :=
  PutG g w W ∧ ∃ A5 c5, W.heap[g]? = some (.cells (VCs p s (chK p xs k) (.slice A5 (vsK xs k).length c5)) 27 (0, 0)) ∧ OwnI W w.heap.size .i64 (.slice A5 (vsK xs k).length c5) (vsK xs k)
set_option maxHeartbeats 6400000 in
set_option maxRecDepth 100000 in
theorem set17_any {g : Nat} {p : Par} {s : ParS} {A : Option Addr} {c : Nat} {v : List Int} (w : World) (h : PX w g p s) (hv : Rds 0 w .u8 A v.length c v) (hy : Byt v) (hl : v.length ≤ 1000000) (h1 : p.vs = []) (h2 : s.vA = none) (h3 : s.vc = 0) :
    Calls Tryd.prog 116 #[.pointer (some ⟨g, 0, none⟩), .slice A v.length c] w (SetPost g p s 17 v w) := by
  have hset : setP p 17 v = if 4 ≤ v.length ∧ v.length % 4 = 0 then some { p with chosen := nth (versL v) 0, vs := (versL v).tail } else none := by
    simp [setP, h1]
  unfold SetPost
  rw [hset]
  clear hset
  have hcap := hv.cap
  have hmax := hv.max
  by_cases hok : 4 ≤ v.length ∧ v.length % 4 = 0
  rotate_left
  · rw [if_neg hok]
    show Calls _ _ _ w (fun e w' => PutG g w w' ∧ e = wrongE)
    unfold wrongE
    by_cases h4 : 4 ≤ v.length
    · have h5 : ¬ (v.length % 4 = 0) := fun e => hok ⟨h4, e⟩
      have h6 : (4 : Int) ≤ (v.length : Int) := by omega
      have h7 : ((v.length : Int) % 4 == 0) = false := by
        simp; omega
      clear h hv hok
      go_enter Tryd.func116, Tryd.ntmps116
      go_wp2_with fail
      refine (need_no _).mono ?_
      rintro e w'' ⟨rfl, hw⟩
      obtain rfl : w'' = w := hw
      unfold wrongE
      go_wp2_with fail
      exact ⟨rfl, PutG.refl _ _, rfl⟩
    · have h6 : ¬ (4 : Int) ≤ (v.length : Int) := by omega
      clear h hv hok
      go_enter Tryd.func116, Tryd.ntmps116
      go_wp2_with fail
      refine (need_no _).mono ?_
      rintro e w'' ⟨rfl, hw⟩
      obtain rfl : w'' = w := hw
      unfold wrongE
      go_wp2_with fail
      exact ⟨rfl, PutG.refl _ _, rfl⟩
  · rw [if_pos hok]
    show Calls _ _ _ w (fun e w' => PutG g w w' ∧ e = .returned (.tuple #[]) ∧ ∃ s', PX w' g { p with chosen := nth (versL v) 0, vs := (versL v).tail } s' ∧ ((17 : Int) ≠ 17 → s'.vA = s.vA ∧ s'.vc = s.vc))
    obtain ⟨h4, h5⟩ := hok
    have h6 : (4 : Int) ≤ (v.length : Int) := by omega
    have h7 : ((v.length : Int) % 4 == 0) = true := by simp; omega
    have H := Lib.hid h
    have HV := Lib.hid hv
    have HY := Lib.hid hy
    have HL := Lib.hid hl
    have H4 := Lib.hid h4
    have H5 := Lib.hid h5
    have HP := Lib.hid (And.intro h1 (And.intro h2 h3))
    clear h hv hy hl h1 h2 h3 h4 h5
    have key := chunk_any A v.length c w
    go_enter Tryd.func116, Tryd.ntmps116
    go_wp2_with fail
    refine (need_yes _).mono ?_
    rintro e w'' ⟨rfl, hw⟩
    obtain rfl : w'' = w := hw
    clear h6 h7
    go_wp2_with fail
    refine key.mono ?_
    clear key
    rintro e w1 ⟨rfl, hw1⟩
    have hb1 : Below w''.heap.size w'' w1 := by rw [hw1]; exact below_pair _ _
    have hs1 : w1.heap.size = w''.heap.size + 2 := by rw [hw1]; simp
    have hc1 : cRd 0 w''.heap.size (w''.heap.size + 1) A v.length c v w1 := ⟨by rw [hw1]; exact heap_alloc2_old w'' _ _, by rw [hw1]; exact heap_alloc2_new w'' _ _, HV.out.below hb1⟩
    have key := collect_any w1 (by have := H5.out; omega) HL.out (Nat.zero_le _) hc1
    have HB1 := Lib.hid hb1
    have HS1 := Lib.hid hs1
    clear hw1 hb1 hs1 hc1
    go_wp2_with fail
    refine key.mono ?_
    clear key
    rintro e w2 ⟨sv, X, rfl, hp, hb⟩
    have HB2 : Hid (Below w''.heap.size w'' w2) := below_next HB1.out HB1.out.size hb
    have hpos : 0 < v.length / 4 := by have := H4.out; omega
    obtain ⟨rb, cap, cur, rfl, hrb, hcur, hn1, hn2, hn3, hn4⟩ : ∃ rb cap cur, sv = .slice (some ⟨rb, 0, none⟩) (v.length / 4) cap ∧ w1.heap.size + 1 ≤ rb ∧ w2.heap[rb]? = some (.cells cur 22 (0, 0)) ∧ v.length / 4 ≤ cap ∧ cap ≤ maxLen ∧ cur.size = cap * 1 ∧ cur.toList.take (v.length / 4 * 1) = X := by
      rcases hp.row.2 with ⟨_, z⟩ | z
      · omega
      · exact z
    have HC : Hid (∀ k, k < v.length / 4 → ∀ W : World, W.heap[rb]? = w2.heap[rb]? → W.cell? ⟨rb, k, none⟩ = some (.slice (A.map (·.add (4 * k))) 4 4)) := fun k hk W hW => by
      rw [cell_of_row W rb k _ _ _ (hW.trans hcur)]
      have := hp.part k hk
      rw [← hn4, Nat.mul_one, List.getElem?_take_of_lt hk] at this
      rw [← this]; simp
    have HRB : Hid (w1.heap.size + 1 ≤ rb ∧ rb < w2.heap.size) := ⟨hrb, lt_of_get hcur⟩
    have hn2' : cap ≤ 9223372036854775807 := hn2
    clear hp hb hrb hcur hn3 hn4 hn2
    have HQ : Hid (VI w2 g p s v 0 w2) := by
      obtain ⟨e1, e2, e3⟩ := HP.out
      have hb := H.out.b.later HB2.out (lt_of_get H.out.b)
      refine ⟨PutG.refl _ _, none, 0, ?_, OwnI.nil _ _ _⟩
      unfold ParB parCs at hb
      rw [e1, e2, e3] at hb
      exact hb
    have HG : Hid (g < w''.heap.size) := lt_of_get H.out.b
    have HNE : Hid (∀ a, 0 < v.length → A = some a → a.block ≠ g) := HV.out.offP (Nat.zero_le _) H.out.b
    obtain ⟨N, hN⟩ : ∃ N, N = v.length / 4 := ⟨_, rfl⟩
    rw [← hN] at hpos hn1 ⊢
    have HN := Lib.hid hN
    clear hN
    go_wp2_with fail
    go_loopw [23] (fun i wr => ∃ k : Nat, k ≤ N ∧ i = .int .i64 k ∧ VI w2 g p s v k wr) (fun i _ => N - (intOf i).toNat)
    case atStart => exact ⟨0, Nat.zero_le _, rfl, HQ.out⟩
    case round =>
      obtain ⟨k, hk, rfl, hvi⟩ := hrel
      have HVI := Lib.hid hvi
      by_cases hlt : k < N
      · obtain ⟨hpg, A5, c5, hb, ho⟩ := hvi
        have hrb : wr.heap[rb]? = w2.heap[rb]? := hpg.off rb HRB.out.2 (by have := HRB.out.1; have := HG.out; have := HS1.out; omega)
        have hR := (HV.out.below HB2.out).putG hpg HNE.out
        obtain ⟨b, o, hA, hcx⟩ := RdI.at_ hR.cell (by have := H4.out; omega)
        have a0 : wr.cell? ⟨rb, k, none⟩ = some (.slice (some ⟨b, o + 4 * k, none⟩) 4 4) := by
          rw [HC.out k (by rw [← HN.out]; exact hlt) wr hrb, hA]
          simp [Addr.add]
        have HCX : Hid (∀ j, j < v.length → wr.cell? ⟨b, o + j, none⟩ = some (.int .u8 (nth v j))) := hcx
        have c9 : wr.cell? ⟨g, 9, none⟩ = some (.slice A5 (vsK v k).length c5) := by rw [cell_of_row wr g 9 _ _ _ hb]; rfl
        have c8 : wr.cell? ⟨g, 8, none⟩ = some (.int .i64 (chK p v k)) := by rw [cell_of_row wr g 8 _ _ _ hb]; rfl
        have f8 : wr.frozen? ⟨g, 8, none⟩ = false := frozen_of_row wr g 8 _ _ hb
        have HBl := Lib.hid hb
        have HO := Lib.hid ho
        have HPG := Lib.hid hpg
        have hki : (k : Int) < (N : Int) := by omega
        have hk0 : (0 : Int) ≤ (k : Int) := by omega
        have hkc : (k : Int) < (cap : Int) := by omega
        clear hcx hR hA hb ho hpg hrb
        go_wp2_with fail
        go_loop [6, 30] (fun n j => ∃ q : Nat, q ≤ 4 ∧ j = .int .i64 q ∧ n = .int .i64 (beQ v k q)) (fun _ j => 4 - (intOf j).toNat)
        case atStart => exact ⟨0, Nat.zero_le _, rfl, rfl⟩
        case round =>
          obtain ⟨q, hq, rfl, rfl⟩ := hrel
          by_cases hq4 : q < 4
          · have a1 := HCX.out (4 * k + q) (by have := HN.out; have := H5.out; omega)
            rw [← Nat.add_assoc] at a1
            have hx := HY.out.nth (4 * k + q)
            have hbd := beQ_bound HY.out k q (by omega)
            have hb3 : (256 : Int) ^ q ≤ 16777216 := by
              have : q = 0 ∨ q = 1 ∨ q = 2 ∨ q = 3 := by omega
              rcases this with rfl | rfl | rfl | rfl <;> decide
            have HSU : Hid (beQ v k (q + 1) = beQ v k q * 256 + nth v (4 * k + q)) := rfl
            obtain ⟨m, hm⟩ : ∃ m, m = beQ v k q := ⟨_, rfl⟩
            obtain ⟨x, hxx⟩ : ∃ x, x = nth v (4 * k + q) := ⟨_, rfl⟩
            rw [← hm, ← hxx] at HSU
            rw [← hxx] at a1 hx
            rw [← hm] at hbd ⊢
            have hm1 : 0 ≤ m := hbd.1
            have hm2 : m < 16777216 := by omega
            have hor : bits BinOp.or IntKind.i64 (m * 256) x = m * 256 + x := i64_or _ _ 8 (by omega) (by omega) (by omega) (by omega) (by omega) (by omega)
            clear hbd hb3 hm hxx
            go_wp2_with fail
            go_round
            case rel => exact ⟨q + 1, by omega, by go_num, by rw [HSU.out]⟩
            case measure => simp [intOf]; omega
          · obtain rfl : q = 4 := by omega
            have HBQ : Hid (beQ v k 4 = be4at v k) := beQ_four v k
            obtain ⟨m, hm⟩ : ∃ m, m = beQ v k 4 := ⟨_, rfl⟩
            rw [← hm]
            have HM := Lib.hid hm
            clear hm
            by_cases hk1 : k = 0
            · subst hk1
              go_wp2_with fail
              go_roundw
              case rel =>
                refine ⟨1, by omega, by go_num, HPG.out.trans (PutG.cell 8 _), A5, c5, ?_, ?_⟩
                · rw [vsK_one]
                  have e1 : chK p v 1 = m := by
                    rw [HM.out, HBQ.out]
                    exact versL_nth (by have := H4.out; omega)
                  rw [e1]
                  exact in7_set HBl.out _
                · rw [vsK_one]
                  exact HO.out.setBelow (p := ⟨g, 8, none⟩) (show g < w2.heap.size by have := HB2.out.size; have := HG.out; omega) _
              case measure => simp [intOf]; omega
            · have hk2 : ((k : Int) == 0) = false := by simp; omega
              have HO2 : Hid (OwnI (wr.alloc (.cells #[.int .i64 m] 3)) w2.heap.size .i64 (.slice A5 (vsK v k).length c5) (vsK v k)) := HO.out.below (below_new _)
              have HR1 : Hid (RdI (wr.alloc (.cells #[.int .i64 m] 3)) .i64 (some ⟨wr.heap.size, 0, none⟩) [m]) := RdI.one wr .i64 m _
              have hle : (vsK v k).length ≤ 1000000 := by have := vsK_len (xs := v) (k := k); have := HL.out; have := HN.out; omega
              go_wp2_with (at_builtin; refine wp_app_int rfl _ _ rfl rfl rfl HO2.out HR1.out rfl (by have := HPG.out.bl.size; simp; omega) (by omega) ?_)
              intro v6 w6 hv6 hg6 hb6
              obtain ⟨A6, c6, rfl⟩ := hv6.slice
              have hbg : w6.heap[g]? = wr.heap[g]? := (hb6.block g (by have := HB2.out.size; have := HG.out; omega)).trans (Below.heap_alloc _ _ g (lt_of_get HBl.out))
              have hb9 := hbg.trans HBl.out
              have d9 : w6.cell? ⟨g, 9, none⟩ = some (.slice A5 (vsK v k).length c5) := by rw [cell_of_row w6 g 9 _ _ _ hb9]; rfl
              have f9 : w6.frozen? ⟨g, 9, none⟩ = false := frozen_of_row w6 g 9 _ _ hb9
              have HV6 := Lib.hid hv6
              have HB6 := Lib.hid hb6
              have HB9 := Lib.hid hb9
              clear hv6 hg6 hb6 hbg hb9
              go_wp2_with fail
              go_roundw
              case rel =>
                have es : vsK v (k + 1) = vsK v k ++ [m] := by rw [HM.out, HBQ.out]; exact vsK_succ (by omega) (by rw [← HN.out]; exact hlt)
                have h6 : PutG g w2 w6 := ⟨HPG.out.bl.trans (((below_new _).mono (by have := lt_of_get HBl.out; omega)).trans (HB6.out.mono (by have := HB2.out.size; have := HG.out; omega))), fun q hq hne => (HB6.out.block q hq).trans ((Below.heap_alloc _ _ q (by have := HPG.out.bl.size; omega)).trans (HPG.out.off q hq hne))⟩
                refine ⟨k + 1, by omega, by go_num, h6.trans (PutG.cell 9 _), A6, c6, ?_, ?_⟩
                · have e1 : chK p v (k + 1) = chK p v k := by simp [chK, hk1]
                  rw [e1, es, List.length_append]
                  exact in7_set HB9.out _
                · rw [es]
                  exact HV6.out.setBelow (p := ⟨g, 9, none⟩) (show g < w2.heap.size by have := HB2.out.size; have := HG.out; omega) _
              case measure => simp [intOf]; omega
      · obtain rfl : k = N := by omega
        clear hvi
        go_wp2_with fail
        go_end0
        obtain ⟨hpg, A5, c5, hb, ho⟩ := HVI.out
        have e1 : chK p v k = nth (versL v) 0 := if_neg (by omega)
        have e2 : vsK v k = (versL v).tail := by rw [HN.out]; exact vsK_all v
        rw [e1, e2] at hb
        rw [e2] at ho
        have hpw : PutG g w'' wr := (PutG.of_below HB2.out (by have := HG.out; omega)).trans hpg
        refine ⟨hpw, rfl, { s with vA := A5, vc := c5 }, ⟨hb, ?_⟩, fun h => absurd rfl h⟩
        have hq := H.out.h
        have hgw := H.out.b
        exact ⟨hq.goal.putG hpw (hq.goal.offP (Nat.zero_le _) hgw), hq.own.putG hpw (hq.own.offP (Nat.zero_le _) hgw), hq.retry.putG hpw (hq.retry.offP (Nat.zero_le _) hgw), ho.rds⟩
end Go.Proofs.YtbfgoojpbhlboaaDoor
