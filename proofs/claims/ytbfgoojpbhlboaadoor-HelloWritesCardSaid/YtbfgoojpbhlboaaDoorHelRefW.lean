/- The reference's layer 14: Write. No condition. Printed by gen_helrefw.py. -/
import Derived.Test.YtbfgoojpbhlboaaDoorRowLanes
import Derived.Test.YtbfgoojpbhlboaaDoorHelSmall
import Derived.Test.YtbfgoojpbhlboaaDoorHelBody
import Derived.Test.YtbfgoojpbhlboaaDoorTake
import Derived.Test.YtbfgoojpbhlboaaDoorVarBytes
import Derived.Test.YtbfgoojpbhlboaaDoorBig05
set_option linter.unusedVariables false
set_option linter.unusedSimpArgs false
set_option linter.unnecessarySimpa false
namespace Go.Proofs.YtbfgoojpbhlboaaDoor
open Go Go.RowKit

/-- The document's message in its box and in memory, seen from a later world. -/
structure HX5 (w : World) (m : Hel) (s : HelS) (W : World) : Prop where
  bl : Below w.heap.size w W
  d : HelD W w.heap.size m s
  h : HelAt w.heap.size W m s
  lo : ∀ a, 0 < m.params.length → s.A = some a → a.block < w.heap.size
theorem Rds.lowG {B : Nat} {w w' : World} {k : IntKind} {A : Option Addr} {n c : Nat} {xs : List Int} (h : Rds B w k A n c xs) {g : Nat} (hb : Below g w w') (ho : ∀ a, 0 < n → A = some a → a.block < g) : Rds B w' k A n c xs := by
  refine ⟨h.len, h.cap, h.max, fun j hj => ?_, fun p a e => ?_⟩
  · obtain ⟨ad, e, hc⟩ := h.cell j hj
    have hp0 : 0 < n := by have := h.len; omega
    refine ⟨ad, e, ?_⟩
    rw [← hc]
    exact World.cell?_of_block (by rw [add_block]; exact hb.block _ (ho ad hp0 e))
  · have hk := h.safe p a e
    refine ⟨Nat.lt_of_lt_of_le hk.1 hb.size, hk.2.imp id ?_⟩
    rintro ⟨cs', t, fr, q1, q2⟩
    exact ⟨cs', t, fr, (hb.block _ (ho a p e)).trans q1, q2⟩
theorem HX5.belowG {w W W' : World} {m : Hel} {s : HelS} (h : HX5 w m s W) {g : Nat} (hg : w.heap.size < g) (hb : Below g W W') : HX5 w m s W' :=
  ⟨h.bl.trans (hb.mono (by omega)), (hb.block _ hg).trans h.d, Rds.lowG h.h hb fun a p e => by have := h.lo a p e; omega, h.lo⟩
theorem HX5.below {w W W' : World} {m : Hel} {s : HelS} (h : HX5 w m s W) (hb : Below W.heap.size W W') : HX5 w m s W' := h.belowG (lt_of_get h.d) hb
theorem HX5.sel {w W W' : World} {m : Hel} {s : HelS} {sp i n : Nat} (h : HX5 w m s W) (hr : selR sp (RelA (w.heap.size + 1) n) i W W') : HX5 w m s W' := by
  unfold selR at hr
  cases hb : Nat.beq i sp with
  | true => rw [hb] at hr; exact h.belowG (by omega) hr.bl
  | false => rw [hb] at hr; exact h.below hr
theorem wp_app_str14 {w : World} {ops : Array Oper} {rest : List Oper} {o : Oper} {a : Act} {Q : Exit → Act → World → Prop} (hgd : o.guard = none) (sl x : Operand)
    (ho : o.op = .call { callee := .builtin .append, args := #[sl, x], argTypes := #[22, 9] }) (nm : ByteArray) (hv : a.eval sl = .slice none 0 0) (hx : a.eval x = .string nm) (h0 : 0 < nm.size) (hs : nm.size ≤ 1000000)
    (h : ∀ v' w', OwnI w' w.heap.size .u8 v' (nameL nm) → Below w.heap.size w w' → wpList Tryd.prog ops Q rest (a.put o.dst v') w') : wpList Tryd.prog ops Q (o :: rest) a w := by
  obtain ⟨i, hi, hz, hsz, hby⟩ := info_parts info_u8
  have hge := grownCap_ge w nm.size 0 5
  have hcm : grownCap w nm.size 0 5 ≤ 9223372036854775807 := by
    have := grownCap_le_maxLen w nm.size 0 5 (by simp only [maxLen]; omega)
    simpa only [maxLen] using this
  have hrun := run_append_nil_string (P := Tryd.prog) w 22 9 o.type 5 i (.int .u8 0) Tryd.underlying22 Tryd.underlying9 hi hz nm h0 (by omega) (by rw [hby]; omega)
  refine wp_app_run hgd sl x _ _ ho hv hx hrun (h _ _ ?_ ?_)
  · refine OwnI.new (t := 5) (heap_alloc_new w.drew _) (Nat.le_refl _) sp_u8 (nameL_len nm) hge ?_ hcm ?_
    · simp only [Array.size_append, Array.size_map, size_zeroCells]
      have e1 : nm.data.size = nm.size := rfl
      have e2 : (Value.int IntKind.u8 0).cells.size = 1 := rfl
      rw [e1, e2]
      omega
    · simp only [Array.toList_append, Array.toList_map]
      have e : nm.data.toList.map (fun b : UInt8 => Value.int IntKind.u8 (b.toNat : Int)) = (nameL nm).map (Value.int .u8) := by simp [nameL, Function.comp_def]
      rw [e, ← nameL_len nm, show (nameL nm).length = ((nameL nm).map (Value.int .u8)).length from by simp]
      exact List.take_left
  · exact ((Below.refl _ _).drew).alloc (Nat.le_refl _) _
theorem msg_lo {w : World} {B : Nat} {s : HelS} {m : Hel} (h : HelAt B w m s) : ∀ a, 0 < m.params.length → s.A = some a → a.block < w.heap.size := fun a p e => (h.safe p a e).1
set_option maxHeartbeats 12800000 in
set_option maxRecDepth 100000 in
theorem rwrite_k1 (m0 m1 m2 m3 m4 : Int) (m5 : Bool) (m6 : List Int) (m7 : ByteArray) (m8 m9 : Int) (s : HelS) (w : World) (h : HelAt w.heap.size w ⟨m0, m1, m2, m3, m4, m5, m6, m7, m8, m9⟩ s) (hl : m6.length ≤ 600) (ho : ownM ⟨m0, m1, m2, m3, m4, m5, m6, m7, m8, m9⟩) (h0 : m0 = 1) :
    Calls Tryd.prog 31 #[.agg (helCs ⟨m0, m1, m2, m3, m4, m5, m6, m7, m8, m9⟩ s)] w (RowPost (msgB m0 (bodyB ⟨m0, m1, m2, m3, m4, m5, m6, m7, m8, m9⟩)) w) := by
  subst h0
  have hmix := hel_hmix
  have HO := Lib.hid ho
  have HL := Lib.hid hl
  have HLEN : Hid ((numB m1).length ≤ 4 ∧ (numB m2).length ≤ 4 ∧ (numB m3).length ≤ 4 ∧ (numB m4).length ≤ 4 ∧ (giveB m6).length ≤ 700 ∧ (varB m9).length ≤ 8 ∧ (bigB m8).length = 4 ∧ ∀ b, (flagB b).length = 1) := ⟨numB_le _, numB_le _, numB_le _, numB_le _, by have := giveB_le m6; omega, by rw [varB_len]; exact sizeV_le8 _, rfl, fun _ => rfl⟩
  obtain ⟨W0, hW⟩ : ∃ W0, W0 = w.alloc (.cells (helCs ⟨1, m1, m2, m3, m4, m5, m6, m7, m8, m9⟩ s) 44) := ⟨_, rfl⟩
  have hbw : Below w.heap.size w W0 := by rw [hW]; exact below_new _
  have P0 : Hid (HX5 w ⟨1, m1, m2, m3, m4, m5, m6, m7, m8, m9⟩ s W0) := ⟨hbw, by rw [hW]; exact heap_alloc_new w _, HelAt.below h hbw, msg_lo h⟩
  clear hbw h ho hl
  obtain ⟨⟨x0, x1, x2, x3, x4⟩, x5, x6, x7, x8, x9⟩ := P0.out.d.ten
  unfold helCs at hW ⊢
  simp only at hW ⊢ x0 x1 x2 x3 x4 x5 x6 x7 x8 x9
  go_enter Tryd.func31, Tryd.ntmps31
  subst hW
  have HN4 : Hid ((numB m1).length = 4) := by show _ = _; have h2 := HO.out; simp [ownM, termOk] at h2; rw [numB_len, if_pos (by omega)]
  obtain ⟨fl, hfl, cfl⟩ : ∃ fl : Int, flagB m5 = [fl] ∧ ∀ W, Calls Tryd.prog 67 #[.bool m5] W fun e w' => e = .returned (.int .u8 fl) ∧ w' = W := ⟨_, rfl, rflag14_any m5⟩
  obtain ⟨b3, hb3⟩ : ∃ b, b = (m3 != 0) := ⟨_, rfl⟩
  obtain ⟨fm, hfm, cfm⟩ : ∃ fm : Int, flagB b3 = [fm] ∧ ∀ W, Calls Tryd.prog 67 #[.bool b3] W fun e w' => e = .returned (.int .u8 fm) ∧ w' = W := ⟨_, rfl, rflag14_any b3⟩
  have HXS : Hid (bodyB ⟨1, m1, m2, m3, m4, m5, m6, m7, m8, m9⟩ = (((((numB m1 ++ numB m2) ++ [fl, fm]) ++ numB m3) ++ giveB m6) ++ numB m4)) := by show _ = _; unfold bodyB; rw [if_pos rfl]; simp only; rw [← hb3, hfl, hfm]; simp
  have HB3 := Lib.hid hb3
  clear hb3 hfm
  clear hfl
  go_wp2_with fail
  clear x0 x1 x2 x3 x4 x5 x6 x7 x8 x9
  have hOK : ∀ (i : Nat) (l : LaneV), i ≠ 8 → ([.val (.slice none 0 0), .val (.pointer (some ⟨w.heap.size, 1, none⟩)), .val (.int .i64 m1), .row (numB m1), .own (w.heap.size + 1) (numB m1), .val (.pointer (some ⟨w.heap.size, 2, none⟩)), .val (.int .i64 m2), .row (numB m2), .own (w.heap.size + 1) (numB m1 ++ numB m2), .val (.pointer (some ⟨w.heap.size, 5, none⟩)), .val (.bool m5), .val (.int .u8 fl), .val (.pointer (some ⟨w.heap.size, 3, none⟩)), .val (.int .i64 m3), .val (.bool b3), .val (.int .u8 fm), .row [fl, fm]] : List LaneV)[i]? = some l → okV (numB m1).length l := by
    intro i l hi e
    have h4 := HN4.out
    have hle := HLEN.out
    exact match i, hi, e with
    | 0, _, e => by cases e; exact trivial
    | 1, _, e => by cases e; exact trivial
    | 2, _, e => by cases e; exact trivial
    | 3, _, e => by cases e; show List.length _ ≤ _; (try simp only [List.length_cons, List.length_nil]); omega
    | 4, _, e => by cases e; show List.length _ ≤ _; (try simp only [List.length_cons, List.length_nil]); omega
    | 5, _, e => by cases e; exact trivial
    | 6, _, e => by cases e; exact trivial
    | 7, _, e => by cases e; show List.length _ ≤ _; (try simp only [List.length_cons, List.length_nil]); omega
    | 8, hi, e => absurd rfl hi
    | 9, _, e => by cases e; exact trivial
    | 10, _, e => by cases e; exact trivial
    | 11, _, e => by cases e; exact trivial
    | 12, _, e => by cases e; exact trivial
    | 13, _, e => by cases e; exact trivial
    | 14, _, e => by cases e; exact trivial
    | 15, _, e => by cases e; exact trivial
    | 16, _, e => by cases e; show List.length _ ≤ _; (try simp only [List.length_cons, List.length_nil]); omega
    | q + 17, _, e => by simp at e
  refine wp_lanes5 hmix 17 (HX5 w ⟨1, m1, m2, m3, m4, m5, m6, m7, m8, m9⟩ s) (selR 8 (RelA (w.heap.size + 1) (numB m1).length)) (rowPR [.val (.slice none 0 0), .val (.pointer (some ⟨w.heap.size, 1, none⟩)), .val (.int .i64 m1), .row (numB m1), .own (w.heap.size + 1) (numB m1), .val (.pointer (some ⟨w.heap.size, 2, none⟩)), .val (.int .i64 m2), .row (numB m2), .own (w.heap.size + 1) (numB m1 ++ numB m2), .val (.pointer (some ⟨w.heap.size, 5, none⟩)), .val (.bool m5), .val (.int .u8 fl), .val (.pointer (some ⟨w.heap.size, 3, none⟩)), .val (.int .i64 m3), .val (.bool b3), .val (.int .u8 fm), .row [fl, fm]]) (by decide +kernel) (by decide +kernel) 103 rfl (by decide +kernel) (by decide) (fun i w1 w2 h k => h.sel k) (fun i j v w1 w2 hij h hr => rowPR_sel hOK i j v w1 w2 hij h hr) (P0.out.below ((Below.refl _ _).drew)) ?_
  refine ⟨?_, ?_, ?_, ?_, ?_, ?_, ?_, ?_, ?_, ?_, ?_, ?_, ?_, ?_, ?_, ?_, ?_, ?_⟩
  · intro a W hs hun hdep
    have e1 := hun 3 (by decide +kernel)
    simp at e1
    refine ⟨rfl, ?_⟩
    unfold Oper.wp
    go_simp
    exact ⟨_, rfl, rfl, selR_no rfl (Below.refl _ _)⟩
  · intro a W hs hun hdep
    have e1 := hun 1 (by decide +kernel)
    simp at e1
    refine ⟨rfl, ?_⟩
    unfold Oper.wp
    go_simp
    exact ⟨_, rfl, rfl, selR_no rfl (Below.refl _ _)⟩
  · intro a W hs hun hdep
    have e1 : a.tmps[9]?.getD undef = .pointer (some ⟨w.heap.size, 1, none⟩) := hdep 1 9 (by decide +kernel) rfl
    have c1 : W.cell? ⟨w.heap.size, 1, none⟩ = some (.int .i64 m1) := hs.d.cell 1
    refine ⟨rfl, ?_⟩
    unfold Oper.wp
    go_simp
    exact ⟨_, rfl, rfl, selR_no rfl (Below.refl _ _)⟩
  · intro a W hs hun hdep
    have e1 : a.tmps[10]?.getD undef = .int .i64 m1 := hdep 2 10 (by decide +kernel) rfl
    refine ⟨rfl, ?_⟩
    unfold Oper.wp
    go_simp
    refine (rnumber_any m1 _).mono ?_
    rintro e W' ⟨v, rfl, ho, hb⟩
    exact ⟨_, rfl, ho.mono (Nat.zero_le _), selR_no rfl (hb)⟩
  · intro a W hs hun hdep
    have e1 : a.tmps[8]?.getD undef = .slice none 0 0 := hdep 0 8 (by decide +kernel) rfl
    have r11 : OwnI W 0 .u8 (a.tmps[11]?.getD undef) (numB m1) := hdep 3 11 (by decide +kernel) rfl
    obtain ⟨A11, c11, e11⟩ := r11.slice
    rw [e11] at r11
    have R11 := Lib.hid (r11.rds (B' := 0))
    have O11 := Lib.hid r11
    clear r11
    exact ⟨rfl, lane_app2 8 11 rfl e1 e11 (OwnI.nil W (w.heap.size + 1) .u8) R11.out.cell rfl (by have := lt_of_get hs.d; omega) (by have := HLEN.out; simp; try omega) fun v' w' h1 h2 h3 => ⟨_, rfl, OwnI.of_eq (List.nil_append _) h1, selR_no rfl (h3 rfl)⟩⟩
  · intro a W hs hun hdep
    have e1 := hun 1 (by decide +kernel)
    simp at e1
    refine ⟨rfl, ?_⟩
    unfold Oper.wp
    go_simp
    exact ⟨_, rfl, rfl, selR_no rfl (Below.refl _ _)⟩
  · intro a W hs hun hdep
    have e1 : a.tmps[13]?.getD undef = .pointer (some ⟨w.heap.size, 2, none⟩) := hdep 5 13 (by decide +kernel) rfl
    have c1 : W.cell? ⟨w.heap.size, 2, none⟩ = some (.int .i64 m2) := hs.d.cell 2
    refine ⟨rfl, ?_⟩
    unfold Oper.wp
    go_simp
    exact ⟨_, rfl, rfl, selR_no rfl (Below.refl _ _)⟩
  · intro a W hs hun hdep
    have e1 : a.tmps[14]?.getD undef = .int .i64 m2 := hdep 6 14 (by decide +kernel) rfl
    refine ⟨rfl, ?_⟩
    unfold Oper.wp
    go_simp
    refine (rnumber_any m2 _).mono ?_
    rintro e W' ⟨v, rfl, ho, hb⟩
    exact ⟨_, rfl, ho.mono (Nat.zero_le _), selR_no rfl (hb)⟩
  · intro a W hs hun hdep
    have ra : OwnI W (w.heap.size + 1) .u8 (a.tmps[12]?.getD undef) (numB m1) := hdep 4 12 (by decide +kernel) rfl
    obtain ⟨Aa, ca, ea⟩ := ra.slice
    rw [ea] at ra
    have r15 : OwnI W 0 .u8 (a.tmps[15]?.getD undef) (numB m2) := hdep 7 15 (by decide +kernel) rfl
    obtain ⟨A15, c15, e15⟩ := r15.slice
    rw [e15] at r15
    have R15 := Lib.hid (r15.rds (B' := 0))
    have O15 := Lib.hid r15
    clear r15
    exact ⟨rfl, lane_app2 12 15 rfl ea e15 ra R15.out.cell rfl (by have := lt_of_get hs.d; omega) (by have := HLEN.out; simp; try omega) fun v' w' h1 h2 h3 => ⟨_, rfl, h1, selR_yes rfl h2⟩⟩
  · intro a W hs hun hdep
    have e1 := hun 1 (by decide +kernel)
    simp at e1
    refine ⟨rfl, ?_⟩
    unfold Oper.wp
    go_simp
    exact ⟨_, rfl, rfl, selR_no rfl (Below.refl _ _)⟩
  · intro a W hs hun hdep
    have e1 : a.tmps[17]?.getD undef = .pointer (some ⟨w.heap.size, 5, none⟩) := hdep 9 17 (by decide +kernel) rfl
    have c1 : W.cell? ⟨w.heap.size, 5, none⟩ = some (.bool m5) := hs.d.cell 5
    refine ⟨rfl, ?_⟩
    unfold Oper.wp
    go_simp
    exact ⟨_, rfl, rfl, selR_no rfl (Below.refl _ _)⟩
  · intro a W hs hun hdep
    have e1 : a.tmps[18]?.getD undef = .bool m5 := hdep 10 18 (by decide +kernel) rfl
    refine ⟨rfl, ?_⟩
    unfold Oper.wp
    go_simp
    refine (cfl _).mono ?_
    rintro e W' ⟨rfl, hw⟩
    subst hw; exact ⟨_, rfl, rfl, selR_no rfl (Below.refl _ _)⟩
  · intro a W hs hun hdep
    have e1 := hun 1 (by decide +kernel)
    simp at e1
    refine ⟨rfl, ?_⟩
    unfold Oper.wp
    go_simp
    exact ⟨_, rfl, rfl, selR_no rfl (Below.refl _ _)⟩
  · intro a W hs hun hdep
    have e1 : a.tmps[20]?.getD undef = .pointer (some ⟨w.heap.size, 3, none⟩) := hdep 12 20 (by decide +kernel) rfl
    have c1 : W.cell? ⟨w.heap.size, 3, none⟩ = some (.int .i64 m3) := hs.d.cell 3
    refine ⟨rfl, ?_⟩
    unfold Oper.wp
    go_simp
    exact ⟨_, rfl, rfl, selR_no rfl (Below.refl _ _)⟩
  · intro a W hs hun hdep
    have e1 : a.tmps[21]?.getD undef = .int .i64 m3 := hdep 13 21 (by decide +kernel) rfl
    refine ⟨rfl, ?_⟩
    unfold Oper.wp
    go_simp
    exact ⟨_, rfl, (congrArg Value.bool HB3.out.symm : Value.bool (m3 != 0) = Value.bool b3), selR_no rfl (Below.refl _ _)⟩
  · intro a W hs hun hdep
    have e1 : a.tmps[22]?.getD undef = .bool b3 := hdep 14 22 (by decide +kernel) rfl
    refine ⟨rfl, ?_⟩
    unfold Oper.wp
    go_simp
    refine (cfm _).mono ?_
    rintro e W' ⟨rfl, hw⟩
    subst hw; exact ⟨_, rfl, rfl, selR_no rfl (Below.refl _ _)⟩
  · intro a W hs hun hdep
    have e1 : a.tmps[19]?.getD undef = .int .u8 fl := hdep 11 19 (by decide +kernel) rfl
    have e2 : a.tmps[23]?.getD undef = .int .u8 fm := hdep 15 23 (by decide +kernel) rfl
    refine ⟨rfl, ?_⟩
    unfold Oper.wp
    go_simp
    exact ⟨_, rfl, OwnI.fresh (B := 0) (xs := [fl, fm]) (t := 5) (Nat.zero_le _) sp_u8 (by simp), selR_no rfl (below_new _)⟩
  · intro a W hds hts hs hun hpr
    have ra : OwnI W (w.heap.size + 1) .u8 (a.tmps[16]?.getD undef) (numB m1 ++ numB m2) := hpr 8 16 (by decide) rfl
    obtain ⟨Aa, ca, ea⟩ := ra.slice
    rw [ea] at ra
    have rb : OwnI W 0 .u8 (a.tmps[24]?.getD undef) ([fl, fm]) := hpr 16 24 (by decide) rfl
    obtain ⟨Ab, cb, eb⟩ := rb.slice
    rw [eb] at rb
    have RB := Lib.hid (rb.rds (B' := 0)).cell
    refine ⟨rfl, lane_app2 16 24 rfl ea eb ra RB.out rfl (by have := lt_of_get hs.d; omega) (by have := HLEN.out; simp; try omega) fun v5 w5 h5 k5 _ => ?_⟩
    obtain ⟨ZS, hZS⟩ : ∃ ZS, ZS = numB m1 ++ numB m2 ++ [fl, fm] := ⟨_, rfl⟩
    rw [← hZS] at h5
    have HZ := Lib.hid hZS
    clear hZS
    have HV5 := Lib.hid h5
    have P5 := Lib.hid (hs.belowG (by omega) k5.bl)
    have u1 := hun 1 (by decide +kernel)
    simp at u1
    have hts' : a.tmps.size = 103 := by simpa using hts
    have hq : (a.put (some 25) v5).eval (.tmp 25) = v5 := by show (a.tmps.setIfInBounds 25 v5).getD 25 undef = v5; rw [Array.getD_eq_getD_getElem?]; exact tmp_set_eq (by rw [hts']; decide)
    refine ⟨rfl, ?_⟩
    unfold Oper.wp execOp
    simp only [hq, Sem.run_bind, Result.andThen_ok, Sem.run_pure]
    simp only [Oper.upon, wpTail, Exit.inBlock, Exit.then]
    have h1' : (((a.put (some 25) v5).put (some 3) v5).tmps)[1]?.getD undef = .pointer (some ⟨w.heap.size, 0, none⟩) := by simp only [Act.put]; rw [tmp_set_other (by decide), tmp_set_other (by decide)]; exact u1
    have h3' : (((a.put (some 25) v5).put (some 3) v5).tmps)[3]?.getD undef = v5 := by simp only [Act.put]; exact tmp_set_eq (by simp [hts'])
    have hz' : ((a.put (some 25) v5).put (some 3) v5).tmps.size = 103 := by simp [Act.put, hts']
    have hd' : ((a.put (some 25) v5).put (some 3) v5).defers = [] := by simpa [Act.put] using hds
    generalize ((a.put (some 25) v5).put (some 3) v5) = b at h1' h3' hz' hd' ⊢
    clear hun hpr u1 hq hts hs ra rb ea eb h5 k5 hts' hds
    have eb : b.tmps = #[b.tmps[0]?.getD undef, b.tmps[1]?.getD undef, b.tmps[2]?.getD undef, b.tmps[3]?.getD undef, b.tmps[4]?.getD undef, b.tmps[5]?.getD undef, b.tmps[6]?.getD undef, b.tmps[7]?.getD undef, b.tmps[8]?.getD undef, b.tmps[9]?.getD undef, b.tmps[10]?.getD undef, b.tmps[11]?.getD undef, b.tmps[12]?.getD undef, b.tmps[13]?.getD undef, b.tmps[14]?.getD undef, b.tmps[15]?.getD undef, b.tmps[16]?.getD undef, b.tmps[17]?.getD undef, b.tmps[18]?.getD undef, b.tmps[19]?.getD undef, b.tmps[20]?.getD undef, b.tmps[21]?.getD undef, b.tmps[22]?.getD undef, b.tmps[23]?.getD undef, b.tmps[24]?.getD undef, b.tmps[25]?.getD undef, b.tmps[26]?.getD undef, b.tmps[27]?.getD undef, b.tmps[28]?.getD undef, b.tmps[29]?.getD undef, b.tmps[30]?.getD undef, b.tmps[31]?.getD undef, b.tmps[32]?.getD undef, b.tmps[33]?.getD undef, b.tmps[34]?.getD undef, b.tmps[35]?.getD undef, b.tmps[36]?.getD undef, b.tmps[37]?.getD undef, b.tmps[38]?.getD undef, b.tmps[39]?.getD undef, b.tmps[40]?.getD undef, b.tmps[41]?.getD undef, b.tmps[42]?.getD undef, b.tmps[43]?.getD undef, b.tmps[44]?.getD undef, b.tmps[45]?.getD undef, b.tmps[46]?.getD undef, b.tmps[47]?.getD undef, b.tmps[48]?.getD undef, b.tmps[49]?.getD undef, b.tmps[50]?.getD undef, b.tmps[51]?.getD undef, b.tmps[52]?.getD undef, b.tmps[53]?.getD undef, b.tmps[54]?.getD undef, b.tmps[55]?.getD undef, b.tmps[56]?.getD undef, b.tmps[57]?.getD undef, b.tmps[58]?.getD undef, b.tmps[59]?.getD undef, b.tmps[60]?.getD undef, b.tmps[61]?.getD undef, b.tmps[62]?.getD undef, b.tmps[63]?.getD undef, b.tmps[64]?.getD undef, b.tmps[65]?.getD undef, b.tmps[66]?.getD undef, b.tmps[67]?.getD undef, b.tmps[68]?.getD undef, b.tmps[69]?.getD undef, b.tmps[70]?.getD undef, b.tmps[71]?.getD undef, b.tmps[72]?.getD undef, b.tmps[73]?.getD undef, b.tmps[74]?.getD undef, b.tmps[75]?.getD undef, b.tmps[76]?.getD undef, b.tmps[77]?.getD undef, b.tmps[78]?.getD undef, b.tmps[79]?.getD undef, b.tmps[80]?.getD undef, b.tmps[81]?.getD undef, b.tmps[82]?.getD undef, b.tmps[83]?.getD undef, b.tmps[84]?.getD undef, b.tmps[85]?.getD undef, b.tmps[86]?.getD undef, b.tmps[87]?.getD undef, b.tmps[88]?.getD undef, b.tmps[89]?.getD undef, b.tmps[90]?.getD undef, b.tmps[91]?.getD undef, b.tmps[92]?.getD undef, b.tmps[93]?.getD undef, b.tmps[94]?.getD undef, b.tmps[95]?.getD undef, b.tmps[96]?.getD undef, b.tmps[97]?.getD undef, b.tmps[98]?.getD undef, b.tmps[99]?.getD undef, b.tmps[100]?.getD undef, b.tmps[101]?.getD undef, b.tmps[102]?.getD undef] := arr_map b.tmps 103 hz'
    rw [h1', h3'] at eb
    obtain ⟨tm, ds⟩ := b
    simp only at eb hd'
    subst hd'
    clear h1' h3' hz'
    generalize tm[0]?.getD undef = q0 at eb
    generalize tm[2]?.getD undef = q2 at eb
    generalize tm[4]?.getD undef = q4 at eb
    generalize tm[5]?.getD undef = q5 at eb
    generalize tm[6]?.getD undef = q6 at eb
    generalize tm[7]?.getD undef = q7 at eb
    generalize tm[8]?.getD undef = q8 at eb
    generalize tm[9]?.getD undef = q9 at eb
    generalize tm[10]?.getD undef = q10 at eb
    generalize tm[11]?.getD undef = q11 at eb
    generalize tm[12]?.getD undef = q12 at eb
    generalize tm[13]?.getD undef = q13 at eb
    generalize tm[14]?.getD undef = q14 at eb
    generalize tm[15]?.getD undef = q15 at eb
    generalize tm[16]?.getD undef = q16 at eb
    generalize tm[17]?.getD undef = q17 at eb
    generalize tm[18]?.getD undef = q18 at eb
    generalize tm[19]?.getD undef = q19 at eb
    generalize tm[20]?.getD undef = q20 at eb
    generalize tm[21]?.getD undef = q21 at eb
    generalize tm[22]?.getD undef = q22 at eb
    generalize tm[23]?.getD undef = q23 at eb
    generalize tm[24]?.getD undef = q24 at eb
    generalize tm[25]?.getD undef = q25 at eb
    generalize tm[26]?.getD undef = q26 at eb
    generalize tm[27]?.getD undef = q27 at eb
    generalize tm[28]?.getD undef = q28 at eb
    generalize tm[29]?.getD undef = q29 at eb
    generalize tm[30]?.getD undef = q30 at eb
    generalize tm[31]?.getD undef = q31 at eb
    generalize tm[32]?.getD undef = q32 at eb
    generalize tm[33]?.getD undef = q33 at eb
    generalize tm[34]?.getD undef = q34 at eb
    generalize tm[35]?.getD undef = q35 at eb
    generalize tm[36]?.getD undef = q36 at eb
    generalize tm[37]?.getD undef = q37 at eb
    generalize tm[38]?.getD undef = q38 at eb
    generalize tm[39]?.getD undef = q39 at eb
    generalize tm[40]?.getD undef = q40 at eb
    generalize tm[41]?.getD undef = q41 at eb
    generalize tm[42]?.getD undef = q42 at eb
    generalize tm[43]?.getD undef = q43 at eb
    generalize tm[44]?.getD undef = q44 at eb
    generalize tm[45]?.getD undef = q45 at eb
    generalize tm[46]?.getD undef = q46 at eb
    generalize tm[47]?.getD undef = q47 at eb
    generalize tm[48]?.getD undef = q48 at eb
    generalize tm[49]?.getD undef = q49 at eb
    generalize tm[50]?.getD undef = q50 at eb
    generalize tm[51]?.getD undef = q51 at eb
    generalize tm[52]?.getD undef = q52 at eb
    generalize tm[53]?.getD undef = q53 at eb
    generalize tm[54]?.getD undef = q54 at eb
    generalize tm[55]?.getD undef = q55 at eb
    generalize tm[56]?.getD undef = q56 at eb
    generalize tm[57]?.getD undef = q57 at eb
    generalize tm[58]?.getD undef = q58 at eb
    generalize tm[59]?.getD undef = q59 at eb
    generalize tm[60]?.getD undef = q60 at eb
    generalize tm[61]?.getD undef = q61 at eb
    generalize tm[62]?.getD undef = q62 at eb
    generalize tm[63]?.getD undef = q63 at eb
    generalize tm[64]?.getD undef = q64 at eb
    generalize tm[65]?.getD undef = q65 at eb
    generalize tm[66]?.getD undef = q66 at eb
    generalize tm[67]?.getD undef = q67 at eb
    generalize tm[68]?.getD undef = q68 at eb
    generalize tm[69]?.getD undef = q69 at eb
    generalize tm[70]?.getD undef = q70 at eb
    generalize tm[71]?.getD undef = q71 at eb
    generalize tm[72]?.getD undef = q72 at eb
    generalize tm[73]?.getD undef = q73 at eb
    generalize tm[74]?.getD undef = q74 at eb
    generalize tm[75]?.getD undef = q75 at eb
    generalize tm[76]?.getD undef = q76 at eb
    generalize tm[77]?.getD undef = q77 at eb
    generalize tm[78]?.getD undef = q78 at eb
    generalize tm[79]?.getD undef = q79 at eb
    generalize tm[80]?.getD undef = q80 at eb
    generalize tm[81]?.getD undef = q81 at eb
    generalize tm[82]?.getD undef = q82 at eb
    generalize tm[83]?.getD undef = q83 at eb
    generalize tm[84]?.getD undef = q84 at eb
    generalize tm[85]?.getD undef = q85 at eb
    generalize tm[86]?.getD undef = q86 at eb
    generalize tm[87]?.getD undef = q87 at eb
    generalize tm[88]?.getD undef = q88 at eb
    generalize tm[89]?.getD undef = q89 at eb
    generalize tm[90]?.getD undef = q90 at eb
    generalize tm[91]?.getD undef = q91 at eb
    generalize tm[92]?.getD undef = q92 at eb
    generalize tm[93]?.getD undef = q93 at eb
    generalize tm[94]?.getD undef = q94 at eb
    generalize tm[95]?.getD undef = q95 at eb
    generalize tm[96]?.getD undef = q96 at eb
    generalize tm[97]?.getD undef = q97 at eb
    generalize tm[98]?.getD undef = q98 at eb
    generalize tm[99]?.getD undef = q99 at eb
    generalize tm[100]?.getD undef = q100 at eb
    generalize tm[101]?.getD undef = q101 at eb
    generalize tm[102]?.getD undef = q102 at eb
    subst eb
    obtain ⟨A6, c6, rfl⟩ := HV5.out.slice
    have hzl : Hid (ZS.length ≤ 100) := by show _ ≤ _; rw [HZ.out]; have := HLEN.out; simp; omega
    obtain ⟨⟨x0, x1, x2, x3, x4⟩, x5, x6, x7, x8, x9⟩ := P5.out.d.ten
    simp only at x0 x1 x2 x3 x4 x5 x6 x7 x8 x9
    go_wp2_with fail
    refine (rnumber_any m3 _).mono ?_
    rintro e u0 ⟨z0, rfl, ho, hb⟩
    obtain ⟨B0, d0, rfl⟩ := ho.slice
    have HS0 := Lib.hid (ho.rds (B' := 0)).cell
    have Q0 := Lib.hid (P5.out.below hb)
    have HW0 := Lib.hid (HV5.out.below hb)
    clear ho hb x0 x1 x2 x3 x4 x5 x6 x7 x8 x9
    obtain ⟨⟨x0, x1, x2, x3, x4⟩, x5, x6, x7, x8, x9⟩ := Q0.out.d.ten
    simp only at x0 x1 x2 x3 x4 x5 x6 x7 x8 x9
    go_wp2_with (at_builtin; refine wp_app_u8 (ys := numB m3) rfl _ _ rfl rfl rfl HW0.out HS0.out rfl (by have := lt_of_get Q0.out.d; omega) (by have := hzl.out; have := HLEN.out; omega) ?_)
    intro v0 t0 h0 g0 b0
    obtain ⟨Y0, hY⟩ : ∃ Y, Y = ZS ++ numB m3 := ⟨_, rfl⟩
    rw [← hY] at h0
    have hzl : Hid (Y0.length ≤ 104) := by show _ ≤ _; rw [hY]; have := hzl.out; have := HLEN.out; simp; omega
    have HY0 := Lib.hid hY
    clear hY
    have S0 := Lib.hid (Q0.out.belowG (g := w.heap.size + 1) (by omega) b0)
    have HX0 := Lib.hid h0
    obtain ⟨E0, k0, rfl⟩ := HX0.out.slice
    clear h0 g0 b0 x0 x1 x2 x3 x4 x5 x6 x7 x8 x9
    obtain ⟨⟨x0, x1, x2, x3, x4⟩, x5, x6, x7, x8, x9⟩ := S0.out.d.ten
    simp only at x0 x1 x2 x3 x4 x5 x6 x7 x8 x9
    go_wp2_with fail
    refine (rgive_any s.A m6.length s.c m6 _ S0.out.h (by have := HL.out; omega)).mono ?_
    rintro e u1 ⟨z1, rfl, ho, hb⟩
    obtain ⟨B1, d1, rfl⟩ := ho.slice
    have HS1 := Lib.hid (ho.rds (B' := 0)).cell
    have Q1 := Lib.hid (S0.out.below hb)
    have HW1 := Lib.hid (HX0.out.below hb)
    clear ho hb x0 x1 x2 x3 x4 x5 x6 x7 x8 x9
    obtain ⟨⟨x0, x1, x2, x3, x4⟩, x5, x6, x7, x8, x9⟩ := Q1.out.d.ten
    simp only at x0 x1 x2 x3 x4 x5 x6 x7 x8 x9
    go_wp2_with (at_builtin; refine wp_app_u8 (ys := giveB m6) rfl _ _ rfl rfl rfl HW1.out HS1.out rfl (by have := lt_of_get Q1.out.d; omega) (by have := hzl.out; have := HLEN.out; omega) ?_)
    intro v1 t1 h1 g1 b1
    obtain ⟨Y1, hY⟩ : ∃ Y, Y = Y0 ++ giveB m6 := ⟨_, rfl⟩
    rw [← hY] at h1
    have hzl : Hid (Y1.length ≤ 804) := by show _ ≤ _; rw [hY]; have := hzl.out; have := HLEN.out; simp; omega
    have HY1 := Lib.hid hY
    clear hY
    have S1 := Lib.hid (Q1.out.belowG (g := w.heap.size + 1) (by omega) b1)
    have HX1 := Lib.hid h1
    obtain ⟨E1, k1, rfl⟩ := HX1.out.slice
    clear h1 g1 b1 x0 x1 x2 x3 x4 x5 x6 x7 x8 x9
    obtain ⟨⟨x0, x1, x2, x3, x4⟩, x5, x6, x7, x8, x9⟩ := S1.out.d.ten
    simp only at x0 x1 x2 x3 x4 x5 x6 x7 x8 x9
    go_wp2_with fail
    refine (rnumber_any m4 _).mono ?_
    rintro e u2 ⟨z2, rfl, ho, hb⟩
    obtain ⟨B2, d2, rfl⟩ := ho.slice
    have HS2 := Lib.hid (ho.rds (B' := 0)).cell
    have Q2 := Lib.hid (S1.out.below hb)
    have HW2 := Lib.hid (HX1.out.below hb)
    clear ho hb x0 x1 x2 x3 x4 x5 x6 x7 x8 x9
    obtain ⟨⟨x0, x1, x2, x3, x4⟩, x5, x6, x7, x8, x9⟩ := Q2.out.d.ten
    simp only at x0 x1 x2 x3 x4 x5 x6 x7 x8 x9
    go_wp2_with (at_builtin; refine wp_app_u8 (ys := numB m4) rfl _ _ rfl rfl rfl HW2.out HS2.out rfl (by have := lt_of_get Q2.out.d; omega) (by have := hzl.out; have := HLEN.out; omega) ?_)
    intro v2 t2 h2 g2 b2
    obtain ⟨Y2, hY⟩ : ∃ Y, Y = Y1 ++ numB m4 := ⟨_, rfl⟩
    rw [← hY] at h2
    have hzl : Hid (Y2.length ≤ 808) := by show _ ≤ _; rw [hY]; have := hzl.out; have := HLEN.out; simp; omega
    have HY2 := Lib.hid hY
    clear hY
    have S2 := Lib.hid (Q2.out.belowG (g := w.heap.size + 1) (by omega) b2)
    have HX2 := Lib.hid h2
    obtain ⟨E2, k2, rfl⟩ := HX2.out.slice
    clear h2 g2 b2 x0 x1 x2 x3 x4 x5 x6 x7 x8 x9
    have HR5 := Lib.hid (HX2.out.rds (B' := 0))
    obtain ⟨⟨x0, x1, x2, x3, x4⟩, x5, x6, x7, x8, x9⟩ := S2.out.d.ten
    simp only at x0 x1 x2 x3 x4 x5 x6 x7 x8 x9
    go_wp2_with fail
    refine (rmessage_any 1 E2 _ k2 (Y2) _ HR5.out).mono ?_
    rintro e w9 ⟨v9, rfl, ho, hb⟩
    have P9 := Lib.hid (S2.out.below hb)
    obtain ⟨A9, c9, rfl⟩ := ho.slice
    have HR9 := Lib.hid (ho.rds (B' := 0))
    clear ho hb
    go_wp2_with fail
    go_ret
    rw [HXS.out, ← HZ.out, ← HY0.out, ← HY1.out, ← HY2.out]
    exact ⟨A9, c9, rfl, HR9.out, P9.out.bl⟩
set_option maxHeartbeats 12800000 in
set_option maxRecDepth 100000 in
theorem rwrite_k2 (m0 m1 m2 m3 m4 : Int) (m5 : Bool) (m6 : List Int) (m7 : ByteArray) (m8 m9 : Int) (s : HelS) (w : World) (h : HelAt w.heap.size w ⟨m0, m1, m2, m3, m4, m5, m6, m7, m8, m9⟩ s) (hl : m6.length ≤ 600) (ho : ownM ⟨m0, m1, m2, m3, m4, m5, m6, m7, m8, m9⟩) (h0 : m0 = 2) :
    Calls Tryd.prog 31 #[.agg (helCs ⟨m0, m1, m2, m3, m4, m5, m6, m7, m8, m9⟩ s)] w (RowPost (msgB m0 (bodyB ⟨m0, m1, m2, m3, m4, m5, m6, m7, m8, m9⟩)) w) := by
  subst h0
  have hmix := hel_hmix
  have HO := Lib.hid ho
  have HL := Lib.hid hl
  have HLEN : Hid ((numB m1).length ≤ 4 ∧ (numB m2).length ≤ 4 ∧ (numB m3).length ≤ 4 ∧ (numB m4).length ≤ 4 ∧ (giveB m6).length ≤ 700 ∧ (varB m9).length ≤ 8 ∧ (bigB m8).length = 4 ∧ ∀ b, (flagB b).length = 1) := ⟨numB_le _, numB_le _, numB_le _, numB_le _, by have := giveB_le m6; omega, by rw [varB_len]; exact sizeV_le8 _, rfl, fun _ => rfl⟩
  obtain ⟨W0, hW⟩ : ∃ W0, W0 = w.alloc (.cells (helCs ⟨2, m1, m2, m3, m4, m5, m6, m7, m8, m9⟩ s) 44) := ⟨_, rfl⟩
  have hbw : Below w.heap.size w W0 := by rw [hW]; exact below_new _
  have P0 : Hid (HX5 w ⟨2, m1, m2, m3, m4, m5, m6, m7, m8, m9⟩ s W0) := ⟨hbw, by rw [hW]; exact heap_alloc_new w _, HelAt.below h hbw, msg_lo h⟩
  clear hbw h ho hl
  obtain ⟨⟨x0, x1, x2, x3, x4⟩, x5, x6, x7, x8, x9⟩ := P0.out.d.ten
  unfold helCs at hW ⊢
  simp only at hW ⊢ x0 x1 x2 x3 x4 x5 x6 x7 x8 x9
  go_enter Tryd.func31, Tryd.ntmps31
  subst hW
  have HN4 : Hid ((numB m1).length = 4) := by show _ = _; have h2 := HO.out; simp [ownM, termOk] at h2; rw [numB_len, if_pos (by omega)]
  obtain ⟨fl, hfl, cfl⟩ : ∃ fl : Int, flagB m5 = [fl] ∧ ∀ W, Calls Tryd.prog 67 #[.bool m5] W fun e w' => e = .returned (.int .u8 fl) ∧ w' = W := ⟨_, rfl, rflag14_any m5⟩
  have hv8 : Hid (0 ≤ m8 ∧ m8 ≤ 4294967295) := by show _ ∧ _; have h2 := HO.out; simp [ownM] at h2; omega
  have HXS : Hid (bodyB ⟨2, m1, m2, m3, m4, m5, m6, m7, m8, m9⟩ = (((numB m1 ++ numB m2) ++ bigB m8) ++ [fl])) := by show _ = _; rw [← hfl]; simp [bodyB]
  clear hfl
  go_wp2_with fail
  clear x0 x1 x2 x3 x4 x5 x6 x7 x8 x9
  have hOK : ∀ (i : Nat) (l : LaneV), i ≠ 8 → ([.val (.slice none 0 0), .val (.pointer (some ⟨w.heap.size, 1, none⟩)), .val (.int .i64 m1), .row (numB m1), .own (w.heap.size + 1) (numB m1), .val (.pointer (some ⟨w.heap.size, 2, none⟩)), .val (.int .i64 m2), .row (numB m2), .own (w.heap.size + 1) (numB m1 ++ numB m2), .val (.pointer (some ⟨w.heap.size, 8, none⟩)), .val (.int .i64 m8), .row (bigB m8)] : List LaneV)[i]? = some l → okV (numB m1).length l := by
    intro i l hi e
    have h4 := HN4.out
    have hle := HLEN.out
    exact match i, hi, e with
    | 0, _, e => by cases e; exact trivial
    | 1, _, e => by cases e; exact trivial
    | 2, _, e => by cases e; exact trivial
    | 3, _, e => by cases e; show List.length _ ≤ _; (try simp only [List.length_cons, List.length_nil]); omega
    | 4, _, e => by cases e; show List.length _ ≤ _; (try simp only [List.length_cons, List.length_nil]); omega
    | 5, _, e => by cases e; exact trivial
    | 6, _, e => by cases e; exact trivial
    | 7, _, e => by cases e; show List.length _ ≤ _; (try simp only [List.length_cons, List.length_nil]); omega
    | 8, hi, e => absurd rfl hi
    | 9, _, e => by cases e; exact trivial
    | 10, _, e => by cases e; exact trivial
    | 11, _, e => by cases e; show List.length _ ≤ _; (try simp only [List.length_cons, List.length_nil]); omega
    | q + 12, _, e => by simp at e
  refine wp_lanes5 hmix 12 (HX5 w ⟨2, m1, m2, m3, m4, m5, m6, m7, m8, m9⟩ s) (selR 8 (RelA (w.heap.size + 1) (numB m1).length)) (rowPR [.val (.slice none 0 0), .val (.pointer (some ⟨w.heap.size, 1, none⟩)), .val (.int .i64 m1), .row (numB m1), .own (w.heap.size + 1) (numB m1), .val (.pointer (some ⟨w.heap.size, 2, none⟩)), .val (.int .i64 m2), .row (numB m2), .own (w.heap.size + 1) (numB m1 ++ numB m2), .val (.pointer (some ⟨w.heap.size, 8, none⟩)), .val (.int .i64 m8), .row (bigB m8)]) (by decide +kernel) (by decide +kernel) 103 rfl (by decide +kernel) (by decide) (fun i w1 w2 h k => h.sel k) (fun i j v w1 w2 hij h hr => rowPR_sel hOK i j v w1 w2 hij h hr) (P0.out.below ((Below.refl _ _).drew)) ?_
  refine ⟨?_, ?_, ?_, ?_, ?_, ?_, ?_, ?_, ?_, ?_, ?_, ?_, ?_⟩
  · intro a W hs hun hdep
    have e1 := hun 3 (by decide +kernel)
    simp at e1
    refine ⟨rfl, ?_⟩
    unfold Oper.wp
    go_simp
    exact ⟨_, rfl, rfl, selR_no rfl (Below.refl _ _)⟩
  · intro a W hs hun hdep
    have e1 := hun 1 (by decide +kernel)
    simp at e1
    refine ⟨rfl, ?_⟩
    unfold Oper.wp
    go_simp
    exact ⟨_, rfl, rfl, selR_no rfl (Below.refl _ _)⟩
  · intro a W hs hun hdep
    have e1 : a.tmps[44]?.getD undef = .pointer (some ⟨w.heap.size, 1, none⟩) := hdep 1 44 (by decide +kernel) rfl
    have c1 : W.cell? ⟨w.heap.size, 1, none⟩ = some (.int .i64 m1) := hs.d.cell 1
    refine ⟨rfl, ?_⟩
    unfold Oper.wp
    go_simp
    exact ⟨_, rfl, rfl, selR_no rfl (Below.refl _ _)⟩
  · intro a W hs hun hdep
    have e1 : a.tmps[45]?.getD undef = .int .i64 m1 := hdep 2 45 (by decide +kernel) rfl
    refine ⟨rfl, ?_⟩
    unfold Oper.wp
    go_simp
    refine (rnumber_any m1 _).mono ?_
    rintro e W' ⟨v, rfl, ho, hb⟩
    exact ⟨_, rfl, ho.mono (Nat.zero_le _), selR_no rfl (hb)⟩
  · intro a W hs hun hdep
    have e1 : a.tmps[43]?.getD undef = .slice none 0 0 := hdep 0 43 (by decide +kernel) rfl
    have r46 : OwnI W 0 .u8 (a.tmps[46]?.getD undef) (numB m1) := hdep 3 46 (by decide +kernel) rfl
    obtain ⟨A46, c46, e46⟩ := r46.slice
    rw [e46] at r46
    have R46 := Lib.hid (r46.rds (B' := 0))
    have O46 := Lib.hid r46
    clear r46
    exact ⟨rfl, lane_app2 43 46 rfl e1 e46 (OwnI.nil W (w.heap.size + 1) .u8) R46.out.cell rfl (by have := lt_of_get hs.d; omega) (by have := HLEN.out; simp; try omega) fun v' w' h1 h2 h3 => ⟨_, rfl, OwnI.of_eq (List.nil_append _) h1, selR_no rfl (h3 rfl)⟩⟩
  · intro a W hs hun hdep
    have e1 := hun 1 (by decide +kernel)
    simp at e1
    refine ⟨rfl, ?_⟩
    unfold Oper.wp
    go_simp
    exact ⟨_, rfl, rfl, selR_no rfl (Below.refl _ _)⟩
  · intro a W hs hun hdep
    have e1 : a.tmps[48]?.getD undef = .pointer (some ⟨w.heap.size, 2, none⟩) := hdep 5 48 (by decide +kernel) rfl
    have c1 : W.cell? ⟨w.heap.size, 2, none⟩ = some (.int .i64 m2) := hs.d.cell 2
    refine ⟨rfl, ?_⟩
    unfold Oper.wp
    go_simp
    exact ⟨_, rfl, rfl, selR_no rfl (Below.refl _ _)⟩
  · intro a W hs hun hdep
    have e1 : a.tmps[49]?.getD undef = .int .i64 m2 := hdep 6 49 (by decide +kernel) rfl
    refine ⟨rfl, ?_⟩
    unfold Oper.wp
    go_simp
    refine (rnumber_any m2 _).mono ?_
    rintro e W' ⟨v, rfl, ho, hb⟩
    exact ⟨_, rfl, ho.mono (Nat.zero_le _), selR_no rfl (hb)⟩
  · intro a W hs hun hdep
    have ra : OwnI W (w.heap.size + 1) .u8 (a.tmps[47]?.getD undef) (numB m1) := hdep 4 47 (by decide +kernel) rfl
    obtain ⟨Aa, ca, ea⟩ := ra.slice
    rw [ea] at ra
    have r50 : OwnI W 0 .u8 (a.tmps[50]?.getD undef) (numB m2) := hdep 7 50 (by decide +kernel) rfl
    obtain ⟨A50, c50, e50⟩ := r50.slice
    rw [e50] at r50
    have R50 := Lib.hid (r50.rds (B' := 0))
    have O50 := Lib.hid r50
    clear r50
    exact ⟨rfl, lane_app2 47 50 rfl ea e50 ra R50.out.cell rfl (by have := lt_of_get hs.d; omega) (by have := HLEN.out; simp; try omega) fun v' w' h1 h2 h3 => ⟨_, rfl, h1, selR_yes rfl h2⟩⟩
  · intro a W hs hun hdep
    have e1 := hun 1 (by decide +kernel)
    simp at e1
    refine ⟨rfl, ?_⟩
    unfold Oper.wp
    go_simp
    exact ⟨_, rfl, rfl, selR_no rfl (Below.refl _ _)⟩
  · intro a W hs hun hdep
    have e1 : a.tmps[52]?.getD undef = .pointer (some ⟨w.heap.size, 8, none⟩) := hdep 9 52 (by decide +kernel) rfl
    have c1 : W.cell? ⟨w.heap.size, 8, none⟩ = some (.int .i64 m8) := hs.d.cell 8
    refine ⟨rfl, ?_⟩
    unfold Oper.wp
    go_simp
    exact ⟨_, rfl, rfl, selR_no rfl (Below.refl _ _)⟩
  · intro a W hs hun hdep
    have e1 : a.tmps[53]?.getD undef = .int .i64 m8 := hdep 10 53 (by decide +kernel) rfl
    refine ⟨rfl, ?_⟩
    unfold Oper.wp
    go_simp
    refine (big05_any m8 4 W (by decide) hv8.out.1 (by have := hv8.out; omega)).mono ?_
    rintro e W' ⟨v, rfl, ho, hb⟩
    exact ⟨_, rfl, (OwnI.of_eq (bigW_four m8) ho).mono (Nat.zero_le _), selR_no rfl hb⟩
  · intro a W hds hts hs hun hpr
    have ra : OwnI W (w.heap.size + 1) .u8 (a.tmps[51]?.getD undef) (numB m1 ++ numB m2) := hpr 8 51 (by decide) rfl
    obtain ⟨Aa, ca, ea⟩ := ra.slice
    rw [ea] at ra
    have rb : OwnI W 0 .u8 (a.tmps[54]?.getD undef) (bigB m8) := hpr 11 54 (by decide) rfl
    obtain ⟨Ab, cb, eb⟩ := rb.slice
    rw [eb] at rb
    have RB := Lib.hid (rb.rds (B' := 0)).cell
    refine ⟨rfl, lane_app2 51 54 rfl ea eb ra RB.out rfl (by have := lt_of_get hs.d; omega) (by have := HLEN.out; simp; try omega) fun v5 w5 h5 k5 _ => ?_⟩
    obtain ⟨ZS, hZS⟩ : ∃ ZS, ZS = numB m1 ++ numB m2 ++ bigB m8 := ⟨_, rfl⟩
    rw [← hZS] at h5
    have HZ := Lib.hid hZS
    clear hZS
    have HV5 := Lib.hid h5
    have P5 := Lib.hid (hs.belowG (by omega) k5.bl)
    have u1 := hun 1 (by decide +kernel)
    simp at u1
    have hts' : a.tmps.size = 103 := by simpa using hts
    have hq : (a.put (some 55) v5).eval (.tmp 55) = v5 := by show (a.tmps.setIfInBounds 55 v5).getD 55 undef = v5; rw [Array.getD_eq_getD_getElem?]; exact tmp_set_eq (by rw [hts']; decide)
    refine ⟨rfl, ?_⟩
    unfold Oper.wp execOp
    simp only [hq, Sem.run_bind, Result.andThen_ok, Sem.run_pure]
    simp only [Oper.upon, wpTail, Exit.inBlock, Exit.then]
    have h1' : (((a.put (some 55) v5).put (some 3) v5).tmps)[1]?.getD undef = .pointer (some ⟨w.heap.size, 0, none⟩) := by simp only [Act.put]; rw [tmp_set_other (by decide), tmp_set_other (by decide)]; exact u1
    have h3' : (((a.put (some 55) v5).put (some 3) v5).tmps)[3]?.getD undef = v5 := by simp only [Act.put]; exact tmp_set_eq (by simp [hts'])
    have hz' : ((a.put (some 55) v5).put (some 3) v5).tmps.size = 103 := by simp [Act.put, hts']
    have hd' : ((a.put (some 55) v5).put (some 3) v5).defers = [] := by simpa [Act.put] using hds
    generalize ((a.put (some 55) v5).put (some 3) v5) = b at h1' h3' hz' hd' ⊢
    clear hun hpr u1 hq hts hs ra rb ea eb h5 k5 hts' hds
    have eb : b.tmps = #[b.tmps[0]?.getD undef, b.tmps[1]?.getD undef, b.tmps[2]?.getD undef, b.tmps[3]?.getD undef, b.tmps[4]?.getD undef, b.tmps[5]?.getD undef, b.tmps[6]?.getD undef, b.tmps[7]?.getD undef, b.tmps[8]?.getD undef, b.tmps[9]?.getD undef, b.tmps[10]?.getD undef, b.tmps[11]?.getD undef, b.tmps[12]?.getD undef, b.tmps[13]?.getD undef, b.tmps[14]?.getD undef, b.tmps[15]?.getD undef, b.tmps[16]?.getD undef, b.tmps[17]?.getD undef, b.tmps[18]?.getD undef, b.tmps[19]?.getD undef, b.tmps[20]?.getD undef, b.tmps[21]?.getD undef, b.tmps[22]?.getD undef, b.tmps[23]?.getD undef, b.tmps[24]?.getD undef, b.tmps[25]?.getD undef, b.tmps[26]?.getD undef, b.tmps[27]?.getD undef, b.tmps[28]?.getD undef, b.tmps[29]?.getD undef, b.tmps[30]?.getD undef, b.tmps[31]?.getD undef, b.tmps[32]?.getD undef, b.tmps[33]?.getD undef, b.tmps[34]?.getD undef, b.tmps[35]?.getD undef, b.tmps[36]?.getD undef, b.tmps[37]?.getD undef, b.tmps[38]?.getD undef, b.tmps[39]?.getD undef, b.tmps[40]?.getD undef, b.tmps[41]?.getD undef, b.tmps[42]?.getD undef, b.tmps[43]?.getD undef, b.tmps[44]?.getD undef, b.tmps[45]?.getD undef, b.tmps[46]?.getD undef, b.tmps[47]?.getD undef, b.tmps[48]?.getD undef, b.tmps[49]?.getD undef, b.tmps[50]?.getD undef, b.tmps[51]?.getD undef, b.tmps[52]?.getD undef, b.tmps[53]?.getD undef, b.tmps[54]?.getD undef, b.tmps[55]?.getD undef, b.tmps[56]?.getD undef, b.tmps[57]?.getD undef, b.tmps[58]?.getD undef, b.tmps[59]?.getD undef, b.tmps[60]?.getD undef, b.tmps[61]?.getD undef, b.tmps[62]?.getD undef, b.tmps[63]?.getD undef, b.tmps[64]?.getD undef, b.tmps[65]?.getD undef, b.tmps[66]?.getD undef, b.tmps[67]?.getD undef, b.tmps[68]?.getD undef, b.tmps[69]?.getD undef, b.tmps[70]?.getD undef, b.tmps[71]?.getD undef, b.tmps[72]?.getD undef, b.tmps[73]?.getD undef, b.tmps[74]?.getD undef, b.tmps[75]?.getD undef, b.tmps[76]?.getD undef, b.tmps[77]?.getD undef, b.tmps[78]?.getD undef, b.tmps[79]?.getD undef, b.tmps[80]?.getD undef, b.tmps[81]?.getD undef, b.tmps[82]?.getD undef, b.tmps[83]?.getD undef, b.tmps[84]?.getD undef, b.tmps[85]?.getD undef, b.tmps[86]?.getD undef, b.tmps[87]?.getD undef, b.tmps[88]?.getD undef, b.tmps[89]?.getD undef, b.tmps[90]?.getD undef, b.tmps[91]?.getD undef, b.tmps[92]?.getD undef, b.tmps[93]?.getD undef, b.tmps[94]?.getD undef, b.tmps[95]?.getD undef, b.tmps[96]?.getD undef, b.tmps[97]?.getD undef, b.tmps[98]?.getD undef, b.tmps[99]?.getD undef, b.tmps[100]?.getD undef, b.tmps[101]?.getD undef, b.tmps[102]?.getD undef] := arr_map b.tmps 103 hz'
    rw [h1', h3'] at eb
    obtain ⟨tm, ds⟩ := b
    simp only at eb hd'
    subst hd'
    clear h1' h3' hz'
    generalize tm[0]?.getD undef = q0 at eb
    generalize tm[2]?.getD undef = q2 at eb
    generalize tm[4]?.getD undef = q4 at eb
    generalize tm[5]?.getD undef = q5 at eb
    generalize tm[6]?.getD undef = q6 at eb
    generalize tm[7]?.getD undef = q7 at eb
    generalize tm[8]?.getD undef = q8 at eb
    generalize tm[9]?.getD undef = q9 at eb
    generalize tm[10]?.getD undef = q10 at eb
    generalize tm[11]?.getD undef = q11 at eb
    generalize tm[12]?.getD undef = q12 at eb
    generalize tm[13]?.getD undef = q13 at eb
    generalize tm[14]?.getD undef = q14 at eb
    generalize tm[15]?.getD undef = q15 at eb
    generalize tm[16]?.getD undef = q16 at eb
    generalize tm[17]?.getD undef = q17 at eb
    generalize tm[18]?.getD undef = q18 at eb
    generalize tm[19]?.getD undef = q19 at eb
    generalize tm[20]?.getD undef = q20 at eb
    generalize tm[21]?.getD undef = q21 at eb
    generalize tm[22]?.getD undef = q22 at eb
    generalize tm[23]?.getD undef = q23 at eb
    generalize tm[24]?.getD undef = q24 at eb
    generalize tm[25]?.getD undef = q25 at eb
    generalize tm[26]?.getD undef = q26 at eb
    generalize tm[27]?.getD undef = q27 at eb
    generalize tm[28]?.getD undef = q28 at eb
    generalize tm[29]?.getD undef = q29 at eb
    generalize tm[30]?.getD undef = q30 at eb
    generalize tm[31]?.getD undef = q31 at eb
    generalize tm[32]?.getD undef = q32 at eb
    generalize tm[33]?.getD undef = q33 at eb
    generalize tm[34]?.getD undef = q34 at eb
    generalize tm[35]?.getD undef = q35 at eb
    generalize tm[36]?.getD undef = q36 at eb
    generalize tm[37]?.getD undef = q37 at eb
    generalize tm[38]?.getD undef = q38 at eb
    generalize tm[39]?.getD undef = q39 at eb
    generalize tm[40]?.getD undef = q40 at eb
    generalize tm[41]?.getD undef = q41 at eb
    generalize tm[42]?.getD undef = q42 at eb
    generalize tm[43]?.getD undef = q43 at eb
    generalize tm[44]?.getD undef = q44 at eb
    generalize tm[45]?.getD undef = q45 at eb
    generalize tm[46]?.getD undef = q46 at eb
    generalize tm[47]?.getD undef = q47 at eb
    generalize tm[48]?.getD undef = q48 at eb
    generalize tm[49]?.getD undef = q49 at eb
    generalize tm[50]?.getD undef = q50 at eb
    generalize tm[51]?.getD undef = q51 at eb
    generalize tm[52]?.getD undef = q52 at eb
    generalize tm[53]?.getD undef = q53 at eb
    generalize tm[54]?.getD undef = q54 at eb
    generalize tm[55]?.getD undef = q55 at eb
    generalize tm[56]?.getD undef = q56 at eb
    generalize tm[57]?.getD undef = q57 at eb
    generalize tm[58]?.getD undef = q58 at eb
    generalize tm[59]?.getD undef = q59 at eb
    generalize tm[60]?.getD undef = q60 at eb
    generalize tm[61]?.getD undef = q61 at eb
    generalize tm[62]?.getD undef = q62 at eb
    generalize tm[63]?.getD undef = q63 at eb
    generalize tm[64]?.getD undef = q64 at eb
    generalize tm[65]?.getD undef = q65 at eb
    generalize tm[66]?.getD undef = q66 at eb
    generalize tm[67]?.getD undef = q67 at eb
    generalize tm[68]?.getD undef = q68 at eb
    generalize tm[69]?.getD undef = q69 at eb
    generalize tm[70]?.getD undef = q70 at eb
    generalize tm[71]?.getD undef = q71 at eb
    generalize tm[72]?.getD undef = q72 at eb
    generalize tm[73]?.getD undef = q73 at eb
    generalize tm[74]?.getD undef = q74 at eb
    generalize tm[75]?.getD undef = q75 at eb
    generalize tm[76]?.getD undef = q76 at eb
    generalize tm[77]?.getD undef = q77 at eb
    generalize tm[78]?.getD undef = q78 at eb
    generalize tm[79]?.getD undef = q79 at eb
    generalize tm[80]?.getD undef = q80 at eb
    generalize tm[81]?.getD undef = q81 at eb
    generalize tm[82]?.getD undef = q82 at eb
    generalize tm[83]?.getD undef = q83 at eb
    generalize tm[84]?.getD undef = q84 at eb
    generalize tm[85]?.getD undef = q85 at eb
    generalize tm[86]?.getD undef = q86 at eb
    generalize tm[87]?.getD undef = q87 at eb
    generalize tm[88]?.getD undef = q88 at eb
    generalize tm[89]?.getD undef = q89 at eb
    generalize tm[90]?.getD undef = q90 at eb
    generalize tm[91]?.getD undef = q91 at eb
    generalize tm[92]?.getD undef = q92 at eb
    generalize tm[93]?.getD undef = q93 at eb
    generalize tm[94]?.getD undef = q94 at eb
    generalize tm[95]?.getD undef = q95 at eb
    generalize tm[96]?.getD undef = q96 at eb
    generalize tm[97]?.getD undef = q97 at eb
    generalize tm[98]?.getD undef = q98 at eb
    generalize tm[99]?.getD undef = q99 at eb
    generalize tm[100]?.getD undef = q100 at eb
    generalize tm[101]?.getD undef = q101 at eb
    generalize tm[102]?.getD undef = q102 at eb
    subst eb
    obtain ⟨A6, c6, rfl⟩ := HV5.out.slice
    obtain ⟨⟨x0, x1, x2, x3, x4⟩, x5, x6, x7, x8, x9⟩ := P5.out.d.ten
    simp only at x0 x1 x2 x3 x4 x5 x6 x7 x8 x9
    have hzl : Hid (ZS.length ≤ 100) := by show _ ≤ _; rw [HZ.out]; have := HLEN.out; simp; omega
    go_wp2_with fail
    refine (cfl _).mono ?_
    rintro e w6 ⟨rfl, hw⟩
    subst hw
    go_wp2_with (at_builtin; refine wp_app_u8 (ys := [fl]) rfl _ _ rfl rfl rfl (HV5.out.below (below_new _)) (RdI.one_at _ .u8 _ _ rfl) rfl (by have := lt_of_get P5.out.d; simp; omega) (by have := hzl.out; simp; omega) ?_)
    intro v7 w7 h7 g7 b7
    obtain ⟨YS, hYS⟩ : ∃ YS, YS = ZS ++ [fl] := ⟨_, rfl⟩
    rw [← hYS] at h7
    have HY := Lib.hid hYS
    clear hYS
    have P7 := Lib.hid (P5.out.belowG (g := w.heap.size + 1) (by omega) (((below_new _).mono (by have := lt_of_get P5.out.d; omega)).trans b7))
    obtain ⟨A5, c5, rfl⟩ := h7.slice
    have HR5 := Lib.hid (h7.rds (B' := 0))
    clear h7 g7 b7 x0 x1 x2 x3 x4 x5 x6 x7 x8 x9
    obtain ⟨⟨x0, x1, x2, x3, x4⟩, x5, x6, x7, x8, x9⟩ := P7.out.d.ten
    simp only at x0 x1 x2 x3 x4 x5 x6 x7 x8 x9
    go_wp2_with fail
    refine (rmessage_any 2 A5 _ c5 (YS) _ HR5.out).mono ?_
    rintro e w9 ⟨v9, rfl, ho, hb⟩
    have P9 := Lib.hid (P7.out.below hb)
    obtain ⟨A9, c9, rfl⟩ := ho.slice
    have HR9 := Lib.hid (ho.rds (B' := 0))
    clear ho hb
    go_wp2_with fail
    go_ret
    rw [HXS.out, ← HZ.out, ← HY.out]
    exact ⟨A9, c9, rfl, HR9.out, P9.out.bl⟩
set_option maxHeartbeats 12800000 in
set_option maxRecDepth 100000 in
theorem rwrite_k4 (m0 m1 m2 m3 m4 : Int) (m5 : Bool) (m6 : List Int) (m7 : ByteArray) (m8 m9 : Int) (s : HelS) (w : World) (h : HelAt w.heap.size w ⟨m0, m1, m2, m3, m4, m5, m6, m7, m8, m9⟩ s) (hl : m6.length ≤ 600) (ho : ownM ⟨m0, m1, m2, m3, m4, m5, m6, m7, m8, m9⟩) (h0 : m0 = 4) :
    Calls Tryd.prog 31 #[.agg (helCs ⟨m0, m1, m2, m3, m4, m5, m6, m7, m8, m9⟩ s)] w (RowPost (msgB m0 (bodyB ⟨m0, m1, m2, m3, m4, m5, m6, m7, m8, m9⟩)) w) := by
  subst h0
  have hmix := hel_hmix
  have HO := Lib.hid ho
  have HL := Lib.hid hl
  have HLEN : Hid ((numB m1).length ≤ 4 ∧ (numB m2).length ≤ 4 ∧ (numB m3).length ≤ 4 ∧ (numB m4).length ≤ 4 ∧ (giveB m6).length ≤ 700 ∧ (varB m9).length ≤ 8 ∧ (bigB m8).length = 4 ∧ ∀ b, (flagB b).length = 1) := ⟨numB_le _, numB_le _, numB_le _, numB_le _, by have := giveB_le m6; omega, by rw [varB_len]; exact sizeV_le8 _, rfl, fun _ => rfl⟩
  obtain ⟨W0, hW⟩ : ∃ W0, W0 = w.alloc (.cells (helCs ⟨4, m1, m2, m3, m4, m5, m6, m7, m8, m9⟩ s) 44) := ⟨_, rfl⟩
  have hbw : Below w.heap.size w W0 := by rw [hW]; exact below_new _
  have P0 : Hid (HX5 w ⟨4, m1, m2, m3, m4, m5, m6, m7, m8, m9⟩ s W0) := ⟨hbw, by rw [hW]; exact heap_alloc_new w _, HelAt.below h hbw, msg_lo h⟩
  clear hbw h ho hl
  obtain ⟨⟨x0, x1, x2, x3, x4⟩, x5, x6, x7, x8, x9⟩ := P0.out.d.ten
  unfold helCs at hW ⊢
  simp only at hW ⊢ x0 x1 x2 x3 x4 x5 x6 x7 x8 x9
  go_enter Tryd.func31, Tryd.ntmps31
  subst hW
  have HXS : Hid (bodyB ⟨4, m1, m2, m3, m4, m5, m6, m7, m8, m9⟩ = numB m3 ++ varB m9) := by show _ = _; simp [bodyB]
  go_wp2_with fail
  clear x0 x1 x2 x3 x4 x5 x6 x7 x8 x9
  refine wp_lanes5 hmix 8 (HX5 w ⟨4, m1, m2, m3, m4, m5, m6, m7, m8, m9⟩ s) (fun _ w w' => Below w.heap.size w w') (rowPR [.val (.slice none 0 0), .val (.pointer (some ⟨w.heap.size, 3, none⟩)), .val (.int .i64 m3), .row (numB m3), .own (w.heap.size + 1) (numB m3), .val (.pointer (some ⟨w.heap.size, 9, none⟩)), .val (.int .i64 m9), .row (varB m9)]) (by decide +kernel) (by decide +kernel) 103 rfl (by decide +kernel) (by decide) (fun i w w' h k => h.below k) (fun i j v w w' _ h k => rowPR_below h k) (P0.out.below ((Below.refl _ _).drew)) ?_
  refine ⟨?_, ?_, ?_, ?_, ?_, ?_, ?_, ?_, ?_⟩
  · intro a W hs hun hdep
    have e1 := hun 3 (by decide +kernel)
    simp at e1
    refine ⟨rfl, ?_⟩
    unfold Oper.wp
    go_simp
    exact ⟨_, rfl, rfl, Below.refl _ _⟩
  · intro a W hs hun hdep
    have e1 := hun 1 (by decide +kernel)
    simp at e1
    refine ⟨rfl, ?_⟩
    unfold Oper.wp
    go_simp
    exact ⟨_, rfl, rfl, Below.refl _ _⟩
  · intro a W hs hun hdep
    have e1 : a.tmps[65]?.getD undef = .pointer (some ⟨w.heap.size, 3, none⟩) := hdep 1 65 (by decide +kernel) rfl
    have c1 : W.cell? ⟨w.heap.size, 3, none⟩ = some (.int .i64 m3) := hs.d.cell 3
    refine ⟨rfl, ?_⟩
    unfold Oper.wp
    go_simp
    exact ⟨_, rfl, rfl, Below.refl _ _⟩
  · intro a W hs hun hdep
    have e1 : a.tmps[66]?.getD undef = .int .i64 m3 := hdep 2 66 (by decide +kernel) rfl
    refine ⟨rfl, ?_⟩
    unfold Oper.wp
    go_simp
    refine (rnumber_any m3 _).mono ?_
    rintro e W' ⟨v, rfl, ho, hb⟩
    exact ⟨_, rfl, ho.mono (Nat.zero_le _), hb⟩
  · intro a W hs hun hdep
    have e1 : a.tmps[64]?.getD undef = .slice none 0 0 := hdep 0 64 (by decide +kernel) rfl
    have r67 : OwnI W 0 .u8 (a.tmps[67]?.getD undef) (numB m3) := hdep 3 67 (by decide +kernel) rfl
    obtain ⟨A67, c67, e67⟩ := r67.slice
    rw [e67] at r67
    have R67 := Lib.hid (r67.rds (B' := 0))
    have O67 := Lib.hid r67
    clear r67
    exact ⟨rfl, lane_app2 64 67 rfl e1 e67 (OwnI.nil W (w.heap.size + 1) .u8) R67.out.cell rfl (by have := lt_of_get hs.d; omega) (by have := HLEN.out; simp; try omega) fun v' w' h1 h2 h3 => ⟨_, rfl, OwnI.of_eq (List.nil_append _) h1, h3 rfl⟩⟩
  · intro a W hs hun hdep
    have e1 := hun 1 (by decide +kernel)
    simp at e1
    refine ⟨rfl, ?_⟩
    unfold Oper.wp
    go_simp
    exact ⟨_, rfl, rfl, Below.refl _ _⟩
  · intro a W hs hun hdep
    have e1 : a.tmps[69]?.getD undef = .pointer (some ⟨w.heap.size, 9, none⟩) := hdep 5 69 (by decide +kernel) rfl
    have c1 : W.cell? ⟨w.heap.size, 9, none⟩ = some (.int .i64 m9) := hs.d.cell 9
    refine ⟨rfl, ?_⟩
    unfold Oper.wp
    go_simp
    exact ⟨_, rfl, rfl, Below.refl _ _⟩
  · intro a W hs hun hdep
    have e1 : a.tmps[70]?.getD undef = .int .i64 m9 := hdep 6 70 (by decide +kernel) rfl
    refine ⟨rfl, ?_⟩
    unfold Oper.wp
    go_simp
    refine (rbytes_any m9 _).mono ?_
    rintro e W' ⟨v, rfl, ho, hb⟩
    exact ⟨_, rfl, ho.mono (Nat.zero_le _), hb⟩
  · intro a W hds hts hs hun hpr
    have ra : OwnI W (w.heap.size + 1) .u8 (a.tmps[68]?.getD undef) (numB m3) := hpr 4 68 (by decide) rfl
    obtain ⟨Aa, ca, ea⟩ := ra.slice
    rw [ea] at ra
    have rb : OwnI W 0 .u8 (a.tmps[71]?.getD undef) (varB m9) := hpr 7 71 (by decide) rfl
    obtain ⟨Ab, cb, eb⟩ := rb.slice
    rw [eb] at rb
    have RB := Lib.hid (rb.rds (B' := 0)).cell
    refine ⟨rfl, lane_app2 68 71 rfl ea eb ra RB.out rfl (by have := lt_of_get hs.d; omega) (by have := HLEN.out; simp; try omega) fun v5 w5 h5 k5 _ => ?_⟩
    obtain ⟨ZS, hZS⟩ : ∃ ZS, ZS = numB m3 ++ varB m9 := ⟨_, rfl⟩
    rw [← hZS] at h5
    have HZ := Lib.hid hZS
    clear hZS
    have HV5 := Lib.hid h5
    have P5 := Lib.hid (hs.belowG (by omega) k5.bl)
    have u1 := hun 1 (by decide +kernel)
    simp at u1
    have hts' : a.tmps.size = 103 := by simpa using hts
    have hq : (a.put (some 72) v5).eval (.tmp 72) = v5 := by show (a.tmps.setIfInBounds 72 v5).getD 72 undef = v5; rw [Array.getD_eq_getD_getElem?]; exact tmp_set_eq (by rw [hts']; decide)
    refine ⟨rfl, ?_⟩
    unfold Oper.wp execOp
    simp only [hq, Sem.run_bind, Result.andThen_ok, Sem.run_pure]
    simp only [Oper.upon, wpTail, Exit.inBlock, Exit.then]
    have h1' : (((a.put (some 72) v5).put (some 3) v5).tmps)[1]?.getD undef = .pointer (some ⟨w.heap.size, 0, none⟩) := by simp only [Act.put]; rw [tmp_set_other (by decide), tmp_set_other (by decide)]; exact u1
    have h3' : (((a.put (some 72) v5).put (some 3) v5).tmps)[3]?.getD undef = v5 := by simp only [Act.put]; exact tmp_set_eq (by simp [hts'])
    have hz' : ((a.put (some 72) v5).put (some 3) v5).tmps.size = 103 := by simp [Act.put, hts']
    have hd' : ((a.put (some 72) v5).put (some 3) v5).defers = [] := by simpa [Act.put] using hds
    generalize ((a.put (some 72) v5).put (some 3) v5) = b at h1' h3' hz' hd' ⊢
    clear hun hpr u1 hq hts hs ra rb ea eb h5 k5 hts' hds
    have eb : b.tmps = #[b.tmps[0]?.getD undef, b.tmps[1]?.getD undef, b.tmps[2]?.getD undef, b.tmps[3]?.getD undef, b.tmps[4]?.getD undef, b.tmps[5]?.getD undef, b.tmps[6]?.getD undef, b.tmps[7]?.getD undef, b.tmps[8]?.getD undef, b.tmps[9]?.getD undef, b.tmps[10]?.getD undef, b.tmps[11]?.getD undef, b.tmps[12]?.getD undef, b.tmps[13]?.getD undef, b.tmps[14]?.getD undef, b.tmps[15]?.getD undef, b.tmps[16]?.getD undef, b.tmps[17]?.getD undef, b.tmps[18]?.getD undef, b.tmps[19]?.getD undef, b.tmps[20]?.getD undef, b.tmps[21]?.getD undef, b.tmps[22]?.getD undef, b.tmps[23]?.getD undef, b.tmps[24]?.getD undef, b.tmps[25]?.getD undef, b.tmps[26]?.getD undef, b.tmps[27]?.getD undef, b.tmps[28]?.getD undef, b.tmps[29]?.getD undef, b.tmps[30]?.getD undef, b.tmps[31]?.getD undef, b.tmps[32]?.getD undef, b.tmps[33]?.getD undef, b.tmps[34]?.getD undef, b.tmps[35]?.getD undef, b.tmps[36]?.getD undef, b.tmps[37]?.getD undef, b.tmps[38]?.getD undef, b.tmps[39]?.getD undef, b.tmps[40]?.getD undef, b.tmps[41]?.getD undef, b.tmps[42]?.getD undef, b.tmps[43]?.getD undef, b.tmps[44]?.getD undef, b.tmps[45]?.getD undef, b.tmps[46]?.getD undef, b.tmps[47]?.getD undef, b.tmps[48]?.getD undef, b.tmps[49]?.getD undef, b.tmps[50]?.getD undef, b.tmps[51]?.getD undef, b.tmps[52]?.getD undef, b.tmps[53]?.getD undef, b.tmps[54]?.getD undef, b.tmps[55]?.getD undef, b.tmps[56]?.getD undef, b.tmps[57]?.getD undef, b.tmps[58]?.getD undef, b.tmps[59]?.getD undef, b.tmps[60]?.getD undef, b.tmps[61]?.getD undef, b.tmps[62]?.getD undef, b.tmps[63]?.getD undef, b.tmps[64]?.getD undef, b.tmps[65]?.getD undef, b.tmps[66]?.getD undef, b.tmps[67]?.getD undef, b.tmps[68]?.getD undef, b.tmps[69]?.getD undef, b.tmps[70]?.getD undef, b.tmps[71]?.getD undef, b.tmps[72]?.getD undef, b.tmps[73]?.getD undef, b.tmps[74]?.getD undef, b.tmps[75]?.getD undef, b.tmps[76]?.getD undef, b.tmps[77]?.getD undef, b.tmps[78]?.getD undef, b.tmps[79]?.getD undef, b.tmps[80]?.getD undef, b.tmps[81]?.getD undef, b.tmps[82]?.getD undef, b.tmps[83]?.getD undef, b.tmps[84]?.getD undef, b.tmps[85]?.getD undef, b.tmps[86]?.getD undef, b.tmps[87]?.getD undef, b.tmps[88]?.getD undef, b.tmps[89]?.getD undef, b.tmps[90]?.getD undef, b.tmps[91]?.getD undef, b.tmps[92]?.getD undef, b.tmps[93]?.getD undef, b.tmps[94]?.getD undef, b.tmps[95]?.getD undef, b.tmps[96]?.getD undef, b.tmps[97]?.getD undef, b.tmps[98]?.getD undef, b.tmps[99]?.getD undef, b.tmps[100]?.getD undef, b.tmps[101]?.getD undef, b.tmps[102]?.getD undef] := arr_map b.tmps 103 hz'
    rw [h1', h3'] at eb
    obtain ⟨tm, ds⟩ := b
    simp only at eb hd'
    subst hd'
    clear h1' h3' hz'
    generalize tm[0]?.getD undef = q0 at eb
    generalize tm[2]?.getD undef = q2 at eb
    generalize tm[4]?.getD undef = q4 at eb
    generalize tm[5]?.getD undef = q5 at eb
    generalize tm[6]?.getD undef = q6 at eb
    generalize tm[7]?.getD undef = q7 at eb
    generalize tm[8]?.getD undef = q8 at eb
    generalize tm[9]?.getD undef = q9 at eb
    generalize tm[10]?.getD undef = q10 at eb
    generalize tm[11]?.getD undef = q11 at eb
    generalize tm[12]?.getD undef = q12 at eb
    generalize tm[13]?.getD undef = q13 at eb
    generalize tm[14]?.getD undef = q14 at eb
    generalize tm[15]?.getD undef = q15 at eb
    generalize tm[16]?.getD undef = q16 at eb
    generalize tm[17]?.getD undef = q17 at eb
    generalize tm[18]?.getD undef = q18 at eb
    generalize tm[19]?.getD undef = q19 at eb
    generalize tm[20]?.getD undef = q20 at eb
    generalize tm[21]?.getD undef = q21 at eb
    generalize tm[22]?.getD undef = q22 at eb
    generalize tm[23]?.getD undef = q23 at eb
    generalize tm[24]?.getD undef = q24 at eb
    generalize tm[25]?.getD undef = q25 at eb
    generalize tm[26]?.getD undef = q26 at eb
    generalize tm[27]?.getD undef = q27 at eb
    generalize tm[28]?.getD undef = q28 at eb
    generalize tm[29]?.getD undef = q29 at eb
    generalize tm[30]?.getD undef = q30 at eb
    generalize tm[31]?.getD undef = q31 at eb
    generalize tm[32]?.getD undef = q32 at eb
    generalize tm[33]?.getD undef = q33 at eb
    generalize tm[34]?.getD undef = q34 at eb
    generalize tm[35]?.getD undef = q35 at eb
    generalize tm[36]?.getD undef = q36 at eb
    generalize tm[37]?.getD undef = q37 at eb
    generalize tm[38]?.getD undef = q38 at eb
    generalize tm[39]?.getD undef = q39 at eb
    generalize tm[40]?.getD undef = q40 at eb
    generalize tm[41]?.getD undef = q41 at eb
    generalize tm[42]?.getD undef = q42 at eb
    generalize tm[43]?.getD undef = q43 at eb
    generalize tm[44]?.getD undef = q44 at eb
    generalize tm[45]?.getD undef = q45 at eb
    generalize tm[46]?.getD undef = q46 at eb
    generalize tm[47]?.getD undef = q47 at eb
    generalize tm[48]?.getD undef = q48 at eb
    generalize tm[49]?.getD undef = q49 at eb
    generalize tm[50]?.getD undef = q50 at eb
    generalize tm[51]?.getD undef = q51 at eb
    generalize tm[52]?.getD undef = q52 at eb
    generalize tm[53]?.getD undef = q53 at eb
    generalize tm[54]?.getD undef = q54 at eb
    generalize tm[55]?.getD undef = q55 at eb
    generalize tm[56]?.getD undef = q56 at eb
    generalize tm[57]?.getD undef = q57 at eb
    generalize tm[58]?.getD undef = q58 at eb
    generalize tm[59]?.getD undef = q59 at eb
    generalize tm[60]?.getD undef = q60 at eb
    generalize tm[61]?.getD undef = q61 at eb
    generalize tm[62]?.getD undef = q62 at eb
    generalize tm[63]?.getD undef = q63 at eb
    generalize tm[64]?.getD undef = q64 at eb
    generalize tm[65]?.getD undef = q65 at eb
    generalize tm[66]?.getD undef = q66 at eb
    generalize tm[67]?.getD undef = q67 at eb
    generalize tm[68]?.getD undef = q68 at eb
    generalize tm[69]?.getD undef = q69 at eb
    generalize tm[70]?.getD undef = q70 at eb
    generalize tm[71]?.getD undef = q71 at eb
    generalize tm[72]?.getD undef = q72 at eb
    generalize tm[73]?.getD undef = q73 at eb
    generalize tm[74]?.getD undef = q74 at eb
    generalize tm[75]?.getD undef = q75 at eb
    generalize tm[76]?.getD undef = q76 at eb
    generalize tm[77]?.getD undef = q77 at eb
    generalize tm[78]?.getD undef = q78 at eb
    generalize tm[79]?.getD undef = q79 at eb
    generalize tm[80]?.getD undef = q80 at eb
    generalize tm[81]?.getD undef = q81 at eb
    generalize tm[82]?.getD undef = q82 at eb
    generalize tm[83]?.getD undef = q83 at eb
    generalize tm[84]?.getD undef = q84 at eb
    generalize tm[85]?.getD undef = q85 at eb
    generalize tm[86]?.getD undef = q86 at eb
    generalize tm[87]?.getD undef = q87 at eb
    generalize tm[88]?.getD undef = q88 at eb
    generalize tm[89]?.getD undef = q89 at eb
    generalize tm[90]?.getD undef = q90 at eb
    generalize tm[91]?.getD undef = q91 at eb
    generalize tm[92]?.getD undef = q92 at eb
    generalize tm[93]?.getD undef = q93 at eb
    generalize tm[94]?.getD undef = q94 at eb
    generalize tm[95]?.getD undef = q95 at eb
    generalize tm[96]?.getD undef = q96 at eb
    generalize tm[97]?.getD undef = q97 at eb
    generalize tm[98]?.getD undef = q98 at eb
    generalize tm[99]?.getD undef = q99 at eb
    generalize tm[100]?.getD undef = q100 at eb
    generalize tm[101]?.getD undef = q101 at eb
    generalize tm[102]?.getD undef = q102 at eb
    subst eb
    obtain ⟨A5, c5, rfl⟩ := HV5.out.slice
    have HR5 := Lib.hid (HV5.out.rds (B' := 0))
    obtain ⟨⟨x0, x1, x2, x3, x4⟩, x5, x6, x7, x8, x9⟩ := P5.out.d.ten
    simp only at x0 x1 x2 x3 x4 x5 x6 x7 x8 x9
    go_wp2_with fail
    refine (rmessage_any 4 A5 _ c5 (ZS) _ HR5.out).mono ?_
    rintro e w9 ⟨v9, rfl, ho, hb⟩
    have P9 := Lib.hid (P5.out.below hb)
    obtain ⟨A9, c9, rfl⟩ := ho.slice
    have HR9 := Lib.hid (ho.rds (B' := 0))
    clear ho hb
    go_wp2_with fail
    go_ret
    rw [HXS.out, ← HZ.out]
    exact ⟨A9, c9, rfl, HR9.out, P9.out.bl⟩
set_option maxHeartbeats 12800000 in
set_option maxRecDepth 100000 in
theorem rwrite_k8 (m0 m1 m2 m3 m4 : Int) (m5 : Bool) (m6 : List Int) (m7 : ByteArray) (m8 m9 : Int) (s : HelS) (w : World) (h : HelAt w.heap.size w ⟨m0, m1, m2, m3, m4, m5, m6, m7, m8, m9⟩ s) (hl : m6.length ≤ 600) (ho : ownM ⟨m0, m1, m2, m3, m4, m5, m6, m7, m8, m9⟩) (h0 : m0 = 8) :
    Calls Tryd.prog 31 #[.agg (helCs ⟨m0, m1, m2, m3, m4, m5, m6, m7, m8, m9⟩ s)] w (RowPost (msgB m0 (bodyB ⟨m0, m1, m2, m3, m4, m5, m6, m7, m8, m9⟩)) w) := by
  subst h0
  have hmix := hel_hmix
  have HO := Lib.hid ho
  have HL := Lib.hid hl
  have HLEN : Hid ((numB m1).length ≤ 4 ∧ (numB m2).length ≤ 4 ∧ (numB m3).length ≤ 4 ∧ (numB m4).length ≤ 4 ∧ (giveB m6).length ≤ 700 ∧ (varB m9).length ≤ 8 ∧ (bigB m8).length = 4 ∧ ∀ b, (flagB b).length = 1) := ⟨numB_le _, numB_le _, numB_le _, numB_le _, by have := giveB_le m6; omega, by rw [varB_len]; exact sizeV_le8 _, rfl, fun _ => rfl⟩
  obtain ⟨W0, hW⟩ : ∃ W0, W0 = w.alloc (.cells (helCs ⟨8, m1, m2, m3, m4, m5, m6, m7, m8, m9⟩ s) 44) := ⟨_, rfl⟩
  have hbw : Below w.heap.size w W0 := by rw [hW]; exact below_new _
  have P0 : Hid (HX5 w ⟨8, m1, m2, m3, m4, m5, m6, m7, m8, m9⟩ s W0) := ⟨hbw, by rw [hW]; exact heap_alloc_new w _, HelAt.below h hbw, msg_lo h⟩
  clear hbw h ho hl
  obtain ⟨⟨x0, x1, x2, x3, x4⟩, x5, x6, x7, x8, x9⟩ := P0.out.d.ten
  unfold helCs at hW ⊢
  simp only at hW ⊢ x0 x1 x2 x3 x4 x5 x6 x7 x8 x9
  go_enter Tryd.func31, Tryd.ntmps31
  subst hW
  have HXS : Hid (bodyB ⟨8, m1, m2, m3, m4, m5, m6, m7, m8, m9⟩ = flagB m5 ++ giveB m6) := by show _ = _; simp [bodyB]
  obtain ⟨fl, hfl, cfl⟩ : ∃ fl : Int, flagB m5 = [fl] ∧ ∀ W, Calls Tryd.prog 67 #[.bool m5] W fun e w' => e = .returned (.int .u8 fl) ∧ w' = W := ⟨_, rfl, rflag14_any m5⟩
  rw [hfl] at HXS
  clear hfl
  go_wp2_with fail
  clear x0 x1 x2 x3 x4 x5 x6 x7 x8 x9
  refine wp_lanes5 hmix 9 (HX5 w ⟨8, m1, m2, m3, m4, m5, m6, m7, m8, m9⟩ s) (fun _ w w' => Below w.heap.size w w') (rowPR [.val (.slice none 0 0), .val (.pointer (some ⟨w.heap.size, 5, none⟩)), .val (.bool m5), .val (.int .u8 fl), .row [fl], .own (w.heap.size + 1) ([fl]), .val (.pointer (some ⟨w.heap.size, 6, none⟩)), .val (.slice s.A m6.length s.c), .row (giveB m6)]) (by decide +kernel) (by decide +kernel) 103 rfl (by decide +kernel) (by decide) (fun i w w' h k => h.below k) (fun i j v w w' _ h k => rowPR_below h k) (P0.out.below ((Below.refl _ _).drew)) ?_
  refine ⟨?_, ?_, ?_, ?_, ?_, ?_, ?_, ?_, ?_, ?_⟩
  · intro a W hs hun hdep
    have e1 := hun 3 (by decide +kernel)
    simp at e1
    refine ⟨rfl, ?_⟩
    unfold Oper.wp
    go_simp
    exact ⟨_, rfl, rfl, Below.refl _ _⟩
  · intro a W hs hun hdep
    have e1 := hun 1 (by decide +kernel)
    simp at e1
    refine ⟨rfl, ?_⟩
    unfold Oper.wp
    go_simp
    exact ⟨_, rfl, rfl, Below.refl _ _⟩
  · intro a W hs hun hdep
    have e1 : a.tmps[76]?.getD undef = .pointer (some ⟨w.heap.size, 5, none⟩) := hdep 1 76 (by decide +kernel) rfl
    have c1 : W.cell? ⟨w.heap.size, 5, none⟩ = some (.bool m5) := hs.d.cell 5
    refine ⟨rfl, ?_⟩
    unfold Oper.wp
    go_simp
    exact ⟨_, rfl, rfl, Below.refl _ _⟩
  · intro a W hs hun hdep
    have e1 : a.tmps[77]?.getD undef = .bool m5 := hdep 2 77 (by decide +kernel) rfl
    refine ⟨rfl, ?_⟩
    unfold Oper.wp
    go_simp
    refine (cfl _).mono ?_
    rintro e W' ⟨rfl, hw⟩
    subst hw; exact ⟨_, rfl, rfl, Below.refl _ _⟩
  · intro a W hs hun hdep
    have e1 : a.tmps[78]?.getD undef = .int .u8 fl := hdep 3 78 (by decide +kernel) rfl
    refine ⟨rfl, ?_⟩
    unfold Oper.wp
    go_simp
    exact ⟨_, rfl, OwnI.fresh (B := 0) (xs := [fl]) (t := 5) (Nat.zero_le _) sp_u8 (by simp), below_new _⟩
  · intro a W hs hun hdep
    have e1 : a.tmps[75]?.getD undef = .slice none 0 0 := hdep 0 75 (by decide +kernel) rfl
    have r79 : OwnI W 0 .u8 (a.tmps[79]?.getD undef) ([fl]) := hdep 4 79 (by decide +kernel) rfl
    obtain ⟨A79, c79, e79⟩ := r79.slice
    rw [e79] at r79
    have R79 := Lib.hid (r79.rds (B' := 0))
    have O79 := Lib.hid r79
    clear r79
    exact ⟨rfl, lane_app2 75 79 rfl e1 e79 (OwnI.nil W (w.heap.size + 1) .u8) R79.out.cell rfl (by have := lt_of_get hs.d; omega) (by have := HLEN.out; simp; try omega) fun v' w' h1 h2 h3 => ⟨_, rfl, OwnI.of_eq (List.nil_append _) h1, h3 rfl⟩⟩
  · intro a W hs hun hdep
    have e1 := hun 1 (by decide +kernel)
    simp at e1
    refine ⟨rfl, ?_⟩
    unfold Oper.wp
    go_simp
    exact ⟨_, rfl, rfl, Below.refl _ _⟩
  · intro a W hs hun hdep
    have e1 : a.tmps[81]?.getD undef = .pointer (some ⟨w.heap.size, 6, none⟩) := hdep 6 81 (by decide +kernel) rfl
    have c1 : W.cell? ⟨w.heap.size, 6, none⟩ = some (.slice s.A m6.length s.c) := hs.d.cell 6
    refine ⟨rfl, ?_⟩
    unfold Oper.wp
    go_simp
    exact ⟨_, rfl, rfl, Below.refl _ _⟩
  · intro a W hs hun hdep
    have e1 : a.tmps[82]?.getD undef = .slice s.A m6.length s.c := hdep 7 82 (by decide +kernel) rfl
    refine ⟨rfl, ?_⟩
    unfold Oper.wp
    go_simp
    refine (rgive_any s.A m6.length s.c m6 W hs.h (by have := HL.out; omega)).mono ?_
    rintro e W' ⟨v, rfl, ho, hb⟩
    exact ⟨_, rfl, ho.mono (Nat.zero_le _), hb⟩
  · intro a W hds hts hs hun hpr
    have ra : OwnI W (w.heap.size + 1) .u8 (a.tmps[80]?.getD undef) ([fl]) := hpr 5 80 (by decide) rfl
    obtain ⟨Aa, ca, ea⟩ := ra.slice
    rw [ea] at ra
    have rb : OwnI W 0 .u8 (a.tmps[83]?.getD undef) (giveB m6) := hpr 8 83 (by decide) rfl
    obtain ⟨Ab, cb, eb⟩ := rb.slice
    rw [eb] at rb
    have RB := Lib.hid (rb.rds (B' := 0)).cell
    refine ⟨rfl, lane_app2 80 83 rfl ea eb ra RB.out rfl (by have := lt_of_get hs.d; omega) (by have := HLEN.out; simp; try omega) fun v5 w5 h5 k5 _ => ?_⟩
    obtain ⟨ZS, hZS⟩ : ∃ ZS, ZS = [fl] ++ giveB m6 := ⟨_, rfl⟩
    rw [← hZS] at h5
    have HZ := Lib.hid hZS
    clear hZS
    have HV5 := Lib.hid h5
    have P5 := Lib.hid (hs.belowG (by omega) k5.bl)
    have u1 := hun 1 (by decide +kernel)
    simp at u1
    have hts' : a.tmps.size = 103 := by simpa using hts
    have hq : (a.put (some 84) v5).eval (.tmp 84) = v5 := by show (a.tmps.setIfInBounds 84 v5).getD 84 undef = v5; rw [Array.getD_eq_getD_getElem?]; exact tmp_set_eq (by rw [hts']; decide)
    refine ⟨rfl, ?_⟩
    unfold Oper.wp execOp
    simp only [hq, Sem.run_bind, Result.andThen_ok, Sem.run_pure]
    simp only [Oper.upon, wpTail, Exit.inBlock, Exit.then]
    have h1' : (((a.put (some 84) v5).put (some 3) v5).tmps)[1]?.getD undef = .pointer (some ⟨w.heap.size, 0, none⟩) := by simp only [Act.put]; rw [tmp_set_other (by decide), tmp_set_other (by decide)]; exact u1
    have h3' : (((a.put (some 84) v5).put (some 3) v5).tmps)[3]?.getD undef = v5 := by simp only [Act.put]; exact tmp_set_eq (by simp [hts'])
    have hz' : ((a.put (some 84) v5).put (some 3) v5).tmps.size = 103 := by simp [Act.put, hts']
    have hd' : ((a.put (some 84) v5).put (some 3) v5).defers = [] := by simpa [Act.put] using hds
    generalize ((a.put (some 84) v5).put (some 3) v5) = b at h1' h3' hz' hd' ⊢
    clear hun hpr u1 hq hts hs ra rb ea eb h5 k5 hts' hds
    have eb : b.tmps = #[b.tmps[0]?.getD undef, b.tmps[1]?.getD undef, b.tmps[2]?.getD undef, b.tmps[3]?.getD undef, b.tmps[4]?.getD undef, b.tmps[5]?.getD undef, b.tmps[6]?.getD undef, b.tmps[7]?.getD undef, b.tmps[8]?.getD undef, b.tmps[9]?.getD undef, b.tmps[10]?.getD undef, b.tmps[11]?.getD undef, b.tmps[12]?.getD undef, b.tmps[13]?.getD undef, b.tmps[14]?.getD undef, b.tmps[15]?.getD undef, b.tmps[16]?.getD undef, b.tmps[17]?.getD undef, b.tmps[18]?.getD undef, b.tmps[19]?.getD undef, b.tmps[20]?.getD undef, b.tmps[21]?.getD undef, b.tmps[22]?.getD undef, b.tmps[23]?.getD undef, b.tmps[24]?.getD undef, b.tmps[25]?.getD undef, b.tmps[26]?.getD undef, b.tmps[27]?.getD undef, b.tmps[28]?.getD undef, b.tmps[29]?.getD undef, b.tmps[30]?.getD undef, b.tmps[31]?.getD undef, b.tmps[32]?.getD undef, b.tmps[33]?.getD undef, b.tmps[34]?.getD undef, b.tmps[35]?.getD undef, b.tmps[36]?.getD undef, b.tmps[37]?.getD undef, b.tmps[38]?.getD undef, b.tmps[39]?.getD undef, b.tmps[40]?.getD undef, b.tmps[41]?.getD undef, b.tmps[42]?.getD undef, b.tmps[43]?.getD undef, b.tmps[44]?.getD undef, b.tmps[45]?.getD undef, b.tmps[46]?.getD undef, b.tmps[47]?.getD undef, b.tmps[48]?.getD undef, b.tmps[49]?.getD undef, b.tmps[50]?.getD undef, b.tmps[51]?.getD undef, b.tmps[52]?.getD undef, b.tmps[53]?.getD undef, b.tmps[54]?.getD undef, b.tmps[55]?.getD undef, b.tmps[56]?.getD undef, b.tmps[57]?.getD undef, b.tmps[58]?.getD undef, b.tmps[59]?.getD undef, b.tmps[60]?.getD undef, b.tmps[61]?.getD undef, b.tmps[62]?.getD undef, b.tmps[63]?.getD undef, b.tmps[64]?.getD undef, b.tmps[65]?.getD undef, b.tmps[66]?.getD undef, b.tmps[67]?.getD undef, b.tmps[68]?.getD undef, b.tmps[69]?.getD undef, b.tmps[70]?.getD undef, b.tmps[71]?.getD undef, b.tmps[72]?.getD undef, b.tmps[73]?.getD undef, b.tmps[74]?.getD undef, b.tmps[75]?.getD undef, b.tmps[76]?.getD undef, b.tmps[77]?.getD undef, b.tmps[78]?.getD undef, b.tmps[79]?.getD undef, b.tmps[80]?.getD undef, b.tmps[81]?.getD undef, b.tmps[82]?.getD undef, b.tmps[83]?.getD undef, b.tmps[84]?.getD undef, b.tmps[85]?.getD undef, b.tmps[86]?.getD undef, b.tmps[87]?.getD undef, b.tmps[88]?.getD undef, b.tmps[89]?.getD undef, b.tmps[90]?.getD undef, b.tmps[91]?.getD undef, b.tmps[92]?.getD undef, b.tmps[93]?.getD undef, b.tmps[94]?.getD undef, b.tmps[95]?.getD undef, b.tmps[96]?.getD undef, b.tmps[97]?.getD undef, b.tmps[98]?.getD undef, b.tmps[99]?.getD undef, b.tmps[100]?.getD undef, b.tmps[101]?.getD undef, b.tmps[102]?.getD undef] := arr_map b.tmps 103 hz'
    rw [h1', h3'] at eb
    obtain ⟨tm, ds⟩ := b
    simp only at eb hd'
    subst hd'
    clear h1' h3' hz'
    generalize tm[0]?.getD undef = q0 at eb
    generalize tm[2]?.getD undef = q2 at eb
    generalize tm[4]?.getD undef = q4 at eb
    generalize tm[5]?.getD undef = q5 at eb
    generalize tm[6]?.getD undef = q6 at eb
    generalize tm[7]?.getD undef = q7 at eb
    generalize tm[8]?.getD undef = q8 at eb
    generalize tm[9]?.getD undef = q9 at eb
    generalize tm[10]?.getD undef = q10 at eb
    generalize tm[11]?.getD undef = q11 at eb
    generalize tm[12]?.getD undef = q12 at eb
    generalize tm[13]?.getD undef = q13 at eb
    generalize tm[14]?.getD undef = q14 at eb
    generalize tm[15]?.getD undef = q15 at eb
    generalize tm[16]?.getD undef = q16 at eb
    generalize tm[17]?.getD undef = q17 at eb
    generalize tm[18]?.getD undef = q18 at eb
    generalize tm[19]?.getD undef = q19 at eb
    generalize tm[20]?.getD undef = q20 at eb
    generalize tm[21]?.getD undef = q21 at eb
    generalize tm[22]?.getD undef = q22 at eb
    generalize tm[23]?.getD undef = q23 at eb
    generalize tm[24]?.getD undef = q24 at eb
    generalize tm[25]?.getD undef = q25 at eb
    generalize tm[26]?.getD undef = q26 at eb
    generalize tm[27]?.getD undef = q27 at eb
    generalize tm[28]?.getD undef = q28 at eb
    generalize tm[29]?.getD undef = q29 at eb
    generalize tm[30]?.getD undef = q30 at eb
    generalize tm[31]?.getD undef = q31 at eb
    generalize tm[32]?.getD undef = q32 at eb
    generalize tm[33]?.getD undef = q33 at eb
    generalize tm[34]?.getD undef = q34 at eb
    generalize tm[35]?.getD undef = q35 at eb
    generalize tm[36]?.getD undef = q36 at eb
    generalize tm[37]?.getD undef = q37 at eb
    generalize tm[38]?.getD undef = q38 at eb
    generalize tm[39]?.getD undef = q39 at eb
    generalize tm[40]?.getD undef = q40 at eb
    generalize tm[41]?.getD undef = q41 at eb
    generalize tm[42]?.getD undef = q42 at eb
    generalize tm[43]?.getD undef = q43 at eb
    generalize tm[44]?.getD undef = q44 at eb
    generalize tm[45]?.getD undef = q45 at eb
    generalize tm[46]?.getD undef = q46 at eb
    generalize tm[47]?.getD undef = q47 at eb
    generalize tm[48]?.getD undef = q48 at eb
    generalize tm[49]?.getD undef = q49 at eb
    generalize tm[50]?.getD undef = q50 at eb
    generalize tm[51]?.getD undef = q51 at eb
    generalize tm[52]?.getD undef = q52 at eb
    generalize tm[53]?.getD undef = q53 at eb
    generalize tm[54]?.getD undef = q54 at eb
    generalize tm[55]?.getD undef = q55 at eb
    generalize tm[56]?.getD undef = q56 at eb
    generalize tm[57]?.getD undef = q57 at eb
    generalize tm[58]?.getD undef = q58 at eb
    generalize tm[59]?.getD undef = q59 at eb
    generalize tm[60]?.getD undef = q60 at eb
    generalize tm[61]?.getD undef = q61 at eb
    generalize tm[62]?.getD undef = q62 at eb
    generalize tm[63]?.getD undef = q63 at eb
    generalize tm[64]?.getD undef = q64 at eb
    generalize tm[65]?.getD undef = q65 at eb
    generalize tm[66]?.getD undef = q66 at eb
    generalize tm[67]?.getD undef = q67 at eb
    generalize tm[68]?.getD undef = q68 at eb
    generalize tm[69]?.getD undef = q69 at eb
    generalize tm[70]?.getD undef = q70 at eb
    generalize tm[71]?.getD undef = q71 at eb
    generalize tm[72]?.getD undef = q72 at eb
    generalize tm[73]?.getD undef = q73 at eb
    generalize tm[74]?.getD undef = q74 at eb
    generalize tm[75]?.getD undef = q75 at eb
    generalize tm[76]?.getD undef = q76 at eb
    generalize tm[77]?.getD undef = q77 at eb
    generalize tm[78]?.getD undef = q78 at eb
    generalize tm[79]?.getD undef = q79 at eb
    generalize tm[80]?.getD undef = q80 at eb
    generalize tm[81]?.getD undef = q81 at eb
    generalize tm[82]?.getD undef = q82 at eb
    generalize tm[83]?.getD undef = q83 at eb
    generalize tm[84]?.getD undef = q84 at eb
    generalize tm[85]?.getD undef = q85 at eb
    generalize tm[86]?.getD undef = q86 at eb
    generalize tm[87]?.getD undef = q87 at eb
    generalize tm[88]?.getD undef = q88 at eb
    generalize tm[89]?.getD undef = q89 at eb
    generalize tm[90]?.getD undef = q90 at eb
    generalize tm[91]?.getD undef = q91 at eb
    generalize tm[92]?.getD undef = q92 at eb
    generalize tm[93]?.getD undef = q93 at eb
    generalize tm[94]?.getD undef = q94 at eb
    generalize tm[95]?.getD undef = q95 at eb
    generalize tm[96]?.getD undef = q96 at eb
    generalize tm[97]?.getD undef = q97 at eb
    generalize tm[98]?.getD undef = q98 at eb
    generalize tm[99]?.getD undef = q99 at eb
    generalize tm[100]?.getD undef = q100 at eb
    generalize tm[101]?.getD undef = q101 at eb
    generalize tm[102]?.getD undef = q102 at eb
    subst eb
    obtain ⟨A5, c5, rfl⟩ := HV5.out.slice
    have HR5 := Lib.hid (HV5.out.rds (B' := 0))
    obtain ⟨⟨x0, x1, x2, x3, x4⟩, x5, x6, x7, x8, x9⟩ := P5.out.d.ten
    simp only at x0 x1 x2 x3 x4 x5 x6 x7 x8 x9
    go_wp2_with fail
    refine (rmessage_any 8 A5 _ c5 (ZS) _ HR5.out).mono ?_
    rintro e w9 ⟨v9, rfl, ho, hb⟩
    have P9 := Lib.hid (P5.out.below hb)
    obtain ⟨A9, c9, rfl⟩ := ho.slice
    have HR9 := Lib.hid (ho.rds (B' := 0))
    clear ho hb
    go_wp2_with fail
    go_ret
    rw [HXS.out, ← HZ.out]
    exact ⟨A9, c9, rfl, HR9.out, P9.out.bl⟩
set_option maxHeartbeats 12800000 in
set_option maxRecDepth 100000 in
theorem rwrite_k11 (m0 m1 m2 m3 m4 : Int) (m5 : Bool) (m6 : List Int) (m7 : ByteArray) (m8 m9 : Int) (s : HelS) (w : World) (h : HelAt w.heap.size w ⟨m0, m1, m2, m3, m4, m5, m6, m7, m8, m9⟩ s) (hl : m6.length ≤ 600) (ho : ownM ⟨m0, m1, m2, m3, m4, m5, m6, m7, m8, m9⟩) (h0 : m0 = 11) :
    Calls Tryd.prog 31 #[.agg (helCs ⟨m0, m1, m2, m3, m4, m5, m6, m7, m8, m9⟩ s)] w (RowPost (msgB m0 (bodyB ⟨m0, m1, m2, m3, m4, m5, m6, m7, m8, m9⟩)) w) := by
  subst h0
  have hmix := hel_hmix
  have HO := Lib.hid ho
  have HL := Lib.hid hl
  have HLEN : Hid ((numB m1).length ≤ 4 ∧ (numB m2).length ≤ 4 ∧ (numB m3).length ≤ 4 ∧ (numB m4).length ≤ 4 ∧ (giveB m6).length ≤ 700 ∧ (varB m9).length ≤ 8 ∧ (bigB m8).length = 4 ∧ ∀ b, (flagB b).length = 1) := ⟨numB_le _, numB_le _, numB_le _, numB_le _, by have := giveB_le m6; omega, by rw [varB_len]; exact sizeV_le8 _, rfl, fun _ => rfl⟩
  obtain ⟨W0, hW⟩ : ∃ W0, W0 = w.alloc (.cells (helCs ⟨11, m1, m2, m3, m4, m5, m6, m7, m8, m9⟩ s) 44) := ⟨_, rfl⟩
  have hbw : Below w.heap.size w W0 := by rw [hW]; exact below_new _
  have P0 : Hid (HX5 w ⟨11, m1, m2, m3, m4, m5, m6, m7, m8, m9⟩ s W0) := ⟨hbw, by rw [hW]; exact heap_alloc_new w _, HelAt.below h hbw, msg_lo h⟩
  clear hbw h ho hl
  obtain ⟨⟨x0, x1, x2, x3, x4⟩, x5, x6, x7, x8, x9⟩ := P0.out.d.ten
  unfold helCs at hW ⊢
  simp only at hW ⊢ x0 x1 x2 x3 x4 x5 x6 x7 x8 x9
  go_enter Tryd.func31, Tryd.ntmps31
  subst hW
  have hnm : 0 < m7.size ∧ m7.size ≤ 1000000 := by have h2 := HO.out; simp [ownM] at h2; omega
  have HXS : Hid (bodyB ⟨11, m1, m2, m3, m4, m5, m6, m7, m8, m9⟩ = nameL m7) := by show _ = _; simp [bodyB]
  go_wp2_with (at_builtin; refine wp_app_str14 rfl _ _ rfl m7 rfl rfl hnm.1 hnm.2 ?_)
  intro v5 w5 hv5 hb5
  have P5 := Lib.hid (P0.out.belowG (g := w.heap.size + 1) (by omega) hb5)
  obtain ⟨A5, c5, rfl⟩ := hv5.slice
  have HR5 := Lib.hid (hv5.rds (B' := 0))
  obtain ⟨ZS, hZS⟩ : ∃ ZS, ZS = nameL m7 := ⟨_, rfl⟩
  rw [← hZS] at HR5 HXS ⊢
  clear hv5 hb5 hnm hZS x0 x1 x2 x3 x4 x5 x6 x7 x8 x9
  obtain ⟨⟨x0, x1, x2, x3, x4⟩, x5, x6, x7, x8, x9⟩ := P5.out.d.ten
  simp only at x0 x1 x2 x3 x4 x5 x6 x7 x8 x9
  go_wp2_with fail
  refine (rmessage_any 11 A5 _ c5 (ZS) _ HR5.out).mono ?_
  rintro e w9 ⟨v9, rfl, ho, hb⟩
  have P9 := Lib.hid (P5.out.below hb)
  obtain ⟨A9, c9, rfl⟩ := ho.slice
  have HR9 := Lib.hid (ho.rds (B' := 0))
  clear ho hb
  go_wp2_with fail
  go_ret
  rw [HXS.out]
  exact ⟨A9, c9, rfl, HR9.out, P9.out.bl⟩
set_option maxHeartbeats 12800000 in
set_option maxRecDepth 100000 in
theorem rwrite_k15 (m0 m1 m2 m3 m4 : Int) (m5 : Bool) (m6 : List Int) (m7 : ByteArray) (m8 m9 : Int) (s : HelS) (w : World) (h : HelAt w.heap.size w ⟨m0, m1, m2, m3, m4, m5, m6, m7, m8, m9⟩ s) (hl : m6.length ≤ 600) (ho : ownM ⟨m0, m1, m2, m3, m4, m5, m6, m7, m8, m9⟩) (h0 : m0 = 15) :
    Calls Tryd.prog 31 #[.agg (helCs ⟨m0, m1, m2, m3, m4, m5, m6, m7, m8, m9⟩ s)] w (RowPost (msgB m0 (bodyB ⟨m0, m1, m2, m3, m4, m5, m6, m7, m8, m9⟩)) w) := by
  subst h0
  have hmix := hel_hmix
  have HO := Lib.hid ho
  have HL := Lib.hid hl
  have HLEN : Hid ((numB m1).length ≤ 4 ∧ (numB m2).length ≤ 4 ∧ (numB m3).length ≤ 4 ∧ (numB m4).length ≤ 4 ∧ (giveB m6).length ≤ 700 ∧ (varB m9).length ≤ 8 ∧ (bigB m8).length = 4 ∧ ∀ b, (flagB b).length = 1) := ⟨numB_le _, numB_le _, numB_le _, numB_le _, by have := giveB_le m6; omega, by rw [varB_len]; exact sizeV_le8 _, rfl, fun _ => rfl⟩
  obtain ⟨W0, hW⟩ : ∃ W0, W0 = w.alloc (.cells (helCs ⟨15, m1, m2, m3, m4, m5, m6, m7, m8, m9⟩ s) 44) := ⟨_, rfl⟩
  have hbw : Below w.heap.size w W0 := by rw [hW]; exact below_new _
  have P0 : Hid (HX5 w ⟨15, m1, m2, m3, m4, m5, m6, m7, m8, m9⟩ s W0) := ⟨hbw, by rw [hW]; exact heap_alloc_new w _, HelAt.below h hbw, msg_lo h⟩
  clear hbw h ho hl
  obtain ⟨⟨x0, x1, x2, x3, x4⟩, x5, x6, x7, x8, x9⟩ := P0.out.d.ten
  unfold helCs at hW ⊢
  simp only at hW ⊢ x0 x1 x2 x3 x4 x5 x6 x7 x8 x9
  go_enter Tryd.func31, Tryd.ntmps31
  subst hW
  have HXS : Hid (bodyB ⟨15, m1, m2, m3, m4, m5, m6, m7, m8, m9⟩ = numB m4) := by show _ = _; simp [bodyB]
  go_wp2_with fail
  refine (rnumber_any m4 _).mono ?_
  rintro e w1 ⟨v3, rfl, ho, hb⟩
  obtain ⟨A3, c3, rfl⟩ := ho.slice
  have P1 := Lib.hid (P0.out.below hb)
  have HR := Lib.hid (ho.rds (B' := 0)).cell
  clear ho hb x0 x1 x2 x3 x4 x5 x6 x7 x8 x9
  go_wp2_with (at_builtin; refine wp_app_u8 (xs := []) (ys := numB m4) rfl _ _ rfl rfl rfl (OwnI.nil w1 w1.heap.size .u8) HR.out rfl (Nat.le_refl _) (by have := HLEN.out; simp; try omega) ?_)
  intro v5 w5 hv5 hg5 hb5
  obtain ⟨A5, c5, rfl⟩ := hv5.slice
  have P5 := Lib.hid (P1.out.below hb5)
  have HR5 : Hid (Rds 0 w5 .u8 A5 (numB m4).length c5 (numB m4)) := Lib.hid (hv5.rds (B' := 0))
  clear hv5 hg5 hb5
  obtain ⟨⟨x0, x1, x2, x3, x4⟩, x5, x6, x7, x8, x9⟩ := P5.out.d.ten
  simp only at x0 x1 x2 x3 x4 x5 x6 x7 x8 x9
  go_wp2_with fail
  refine (rmessage_any 15 A5 _ c5 (numB m4) _ HR5.out).mono ?_
  rintro e w9 ⟨v9, rfl, ho, hb⟩
  have P9 := Lib.hid (P5.out.below hb)
  obtain ⟨A9, c9, rfl⟩ := ho.slice
  have HR9 := Lib.hid (ho.rds (B' := 0))
  clear ho hb
  go_wp2_with fail
  go_ret
  rw [HXS.out]
  exact ⟨A9, c9, rfl, HR9.out, P9.out.bl⟩
set_option maxHeartbeats 12800000 in
set_option maxRecDepth 100000 in
theorem rwrite_k20 (m0 m1 m2 m3 m4 : Int) (m5 : Bool) (m6 : List Int) (m7 : ByteArray) (m8 m9 : Int) (s : HelS) (w : World) (h : HelAt w.heap.size w ⟨m0, m1, m2, m3, m4, m5, m6, m7, m8, m9⟩ s) (hl : m6.length ≤ 600) (ho : ownM ⟨m0, m1, m2, m3, m4, m5, m6, m7, m8, m9⟩) (h0 : m0 = 20) :
    Calls Tryd.prog 31 #[.agg (helCs ⟨m0, m1, m2, m3, m4, m5, m6, m7, m8, m9⟩ s)] w (RowPost (msgB m0 (bodyB ⟨m0, m1, m2, m3, m4, m5, m6, m7, m8, m9⟩)) w) := by
  subst h0
  have hmix := hel_hmix
  have HO := Lib.hid ho
  have HL := Lib.hid hl
  have HLEN : Hid ((numB m1).length ≤ 4 ∧ (numB m2).length ≤ 4 ∧ (numB m3).length ≤ 4 ∧ (numB m4).length ≤ 4 ∧ (giveB m6).length ≤ 700 ∧ (varB m9).length ≤ 8 ∧ (bigB m8).length = 4 ∧ ∀ b, (flagB b).length = 1) := ⟨numB_le _, numB_le _, numB_le _, numB_le _, by have := giveB_le m6; omega, by rw [varB_len]; exact sizeV_le8 _, rfl, fun _ => rfl⟩
  obtain ⟨W0, hW⟩ : ∃ W0, W0 = w.alloc (.cells (helCs ⟨20, m1, m2, m3, m4, m5, m6, m7, m8, m9⟩ s) 44) := ⟨_, rfl⟩
  have hbw : Below w.heap.size w W0 := by rw [hW]; exact below_new _
  have P0 : Hid (HX5 w ⟨20, m1, m2, m3, m4, m5, m6, m7, m8, m9⟩ s W0) := ⟨hbw, by rw [hW]; exact heap_alloc_new w _, HelAt.below h hbw, msg_lo h⟩
  clear hbw h ho hl
  obtain ⟨⟨x0, x1, x2, x3, x4⟩, x5, x6, x7, x8, x9⟩ := P0.out.d.ten
  unfold helCs at hW ⊢
  simp only at hW ⊢ x0 x1 x2 x3 x4 x5 x6 x7 x8 x9
  go_enter Tryd.func31, Tryd.ntmps31
  subst hW
  have HXS : Hid (bodyB ⟨20, m1, m2, m3, m4, m5, m6, m7, m8, m9⟩ = numB m4) := by show _ = _; simp [bodyB]
  go_wp2_with fail
  refine (rnumber_any m4 _).mono ?_
  rintro e w1 ⟨v3, rfl, ho, hb⟩
  obtain ⟨A3, c3, rfl⟩ := ho.slice
  have P1 := Lib.hid (P0.out.below hb)
  have HR := Lib.hid (ho.rds (B' := 0)).cell
  clear ho hb x0 x1 x2 x3 x4 x5 x6 x7 x8 x9
  go_wp2_with (at_builtin; refine wp_app_u8 (xs := []) (ys := numB m4) rfl _ _ rfl rfl rfl (OwnI.nil w1 w1.heap.size .u8) HR.out rfl (Nat.le_refl _) (by have := HLEN.out; simp; try omega) ?_)
  intro v5 w5 hv5 hg5 hb5
  obtain ⟨A5, c5, rfl⟩ := hv5.slice
  have P5 := Lib.hid (P1.out.below hb5)
  have HR5 : Hid (Rds 0 w5 .u8 A5 (numB m4).length c5 (numB m4)) := Lib.hid (hv5.rds (B' := 0))
  clear hv5 hg5 hb5
  obtain ⟨⟨x0, x1, x2, x3, x4⟩, x5, x6, x7, x8, x9⟩ := P5.out.d.ten
  simp only at x0 x1 x2 x3 x4 x5 x6 x7 x8 x9
  go_wp2_with fail
  refine (rmessage_any 20 A5 _ c5 (numB m4) _ HR5.out).mono ?_
  rintro e w9 ⟨v9, rfl, ho, hb⟩
  have P9 := Lib.hid (P5.out.below hb)
  obtain ⟨A9, c9, rfl⟩ := ho.slice
  have HR9 := Lib.hid (ho.rds (B' := 0))
  clear ho hb
  go_wp2_with fail
  go_ret
  rw [HXS.out]
  exact ⟨A9, c9, rfl, HR9.out, P9.out.bl⟩
theorem rhwrite_any (m : Hel) (s : HelS) (w : World) (h : HelAt w.heap.size w m s) (hl : m.params.length ≤ 600) (ho : ownM m) :
    Calls Tryd.prog 31 #[.agg (helCs m s)] w (RowPost (msgB m.kind (bodyB m)) w) := by
  have hk := ownM_kind ho
  obtain ⟨m0, m1, m2, m3, m4, m5, m6, m7, m8, m9⟩ := m
  simp only at hk
  rcases hk with q | q | q | q | q | q | q
  · exact rwrite_k1 m0 m1 m2 m3 m4 m5 m6 m7 m8 m9 s w h hl ho q
  · exact rwrite_k2 m0 m1 m2 m3 m4 m5 m6 m7 m8 m9 s w h hl ho q
  · exact rwrite_k4 m0 m1 m2 m3 m4 m5 m6 m7 m8 m9 s w h hl ho q
  · exact rwrite_k8 m0 m1 m2 m3 m4 m5 m6 m7 m8 m9 s w h hl ho q
  · exact rwrite_k11 m0 m1 m2 m3 m4 m5 m6 m7 m8 m9 s w h hl ho q
  · exact rwrite_k15 m0 m1 m2 m3 m4 m5 m6 m7 m8 m9 s w h hl ho q
  · exact rwrite_k20 m0 m1 m2 m3 m4 m5 m6 m7 m8 m9 s w h hl ho q
end Go.Proofs.YtbfgoojpbhlboaaDoor
