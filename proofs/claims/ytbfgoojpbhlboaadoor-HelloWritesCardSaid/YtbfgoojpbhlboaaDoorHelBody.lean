/- The program's layer 14: body. No condition but the table of bit places. Printed by gen_helbody.py. -/
import Derived.Test.YtbfgoojpbhlboaaDoorRowLanes
import Derived.Test.YtbfgoojpbhlboaaDoorHelSmall
import Derived.Test.YtbfgoojpbhlboaaDoorHelOf
import Derived.Test.YtbfgoojpbhlboaaDoorVarGive
set_option linter.unusedVariables false
set_option linter.unusedSimpArgs false
set_option linter.unnecessarySimpa false
namespace Go.Proofs.YtbfgoojpbhlboaaDoor
open Go Go.RowKit

/-- A call that hands back a row of bytes that is read. -/
def RowPost (xs : List Int) (w : World) (e : Ending) (w' : World) : Prop := ∃ A c, e = .returned (.slice A xs.length c) ∧ Rds 0 w' .u8 A xs.length c xs ∧ Below w.heap.size w w'
theorem run_str14 (w : World) (s : ByteArray) (hs : s.size ≤ 1000000) : ∃ c w', (convert 9 22 (.string s)).run Tryd.prog w = .ok (.slice (some ⟨w.heap.size, 0, none⟩) s.size c) w' ∧
    (∀ B, Rds B w' .u8 (some ⟨w.heap.size, 0, none⟩) (nameL s).length c (nameL s)) ∧ Below w.heap.size w w' := by
  refine ⟨_, _, Lib.run_convert_string_bytes w 9 22 5 s Tryd.underlying9 Tryd.underlying22 Tryd.underlying5, fun B => ⟨rfl, by rw [nameL_len]; exact grownCap_ge _ _ _ _, ?_, fun j hj => ?_, fun _ a e => ?_⟩, ⟨rfl, rfl, rfl, ?_, fun k hk => ?_⟩⟩
  · have := grownCap_le_maxLen w s.size 0 5 (by simp only [maxLen]; omega)
    simpa only [maxLen] using this
  · rw [nameL_len] at hj
    exact ⟨_, rfl, by rw [addr_add, Nat.zero_add, nth_nameL s hj]; exact Lib.bytesWorld_cell w _ s j hj⟩
  · cases e
    exact ⟨by rw [Lib.bytesWorld_size]; simp, .inr ⟨_, _, _, Lib.bytesWorld_at_new w _ s, by decide⟩⟩
  · rw [Lib.bytesWorld_size]; omega
  · exact Lib.bytesWorld_at_old w _ s k hk
theorem wp_str14 {w : World} {ops : Array Oper} {rest : List Oper} {o : Oper} {a : Act} {Q : Exit → Act → World → Prop} (hgd : o.guard = none) (x : Operand) (ho : o.op = .convert 9 22 x) (s : ByteArray) (hx : a.eval x = .string s) (hs : s.size ≤ 1000000)
    (h : ∀ c w', (∀ B, Rds B w' .u8 (some ⟨w.heap.size, 0, none⟩) (nameL s).length c (nameL s)) → Below w.heap.size w w' → wpList Tryd.prog ops Q rest (a.put o.dst (.slice (some ⟨w.heap.size, 0, none⟩) s.size c)) w') : wpList Tryd.prog ops Q (o :: rest) a w := by
  obtain ⟨c, w', e, h1, h2⟩ := run_str14 w s hs
  refine wp_op hgd (v := .slice (some ⟨w.heap.size, 0, none⟩) s.size c) ?_ (h c w' h1 h2)
  unfold execOp
  simp only [ho, hx, Sem.run_bind, e, Result.andThen_ok, Sem.run_pure]
theorem hel_hmix : Tryd.prog.follows .mixedOrders = true := by kernel_rfl
/-- The program's message in its box and in memory, seen from a later world. -/
structure BX14 (B : Nat) (w : World) (g : Nat) (m : Hel) (s : HelS) (W : World) : Prop where
  bl : Below w.heap.size w W
  d : HelB W g m s
  h : HelAt B W m s
theorem BX14.below {B : Nat} {w W W' : World} {g : Nat} {m : Hel} {s : HelS} (h : BX14 B w g m s W) (hb : Below W.heap.size W W') : BX14 B w g m s W' := ⟨below_next h.bl h.bl.size hb, h.d.later hb (lt_of_get h.d), h.h.below hb⟩
structure BX14r (B : Nat) (w : World) (g : Nat) (m : Hel) (s : HelS) (A3 : Option Addr) (c3 : Nat) (zs : List Int) (W : World) : Prop where
  b : BX14 B w g m s W
  d : HelB W g m s
  r : Rds 0 W .u8 A3 zs.length c3 zs
theorem BX14r.below {B : Nat} {w W W' : World} {g : Nat} {m : Hel} {s : HelS} {A3 : Option Addr} {c3 : Nat} {zs : List Int} (h : BX14r B w g m s A3 c3 zs W) (hb : Below W.heap.size W W') : BX14r B w g m s A3 c3 zs W' := ⟨h.b.below hb, h.d.later hb (lt_of_get h.d), h.r.below hb⟩
theorem numB_le (h : Int) : (numB h).length ≤ 4 := by rw [numB_len]; split <;> omega
theorem giveB_le (b : List Int) : (giveB b).length ≤ 8 + b.length := by
  unfold giveB
  rw [List.length_append, varB_len]
  have := sizeV_le8 (b.length : Int)
  omega
set_option maxHeartbeats 6400000 in
set_option maxRecDepth 100000 in
theorem body_k1 {B : Nat} (m0 m1 m2 m3 m4 : Int) (m5 : Bool) (m6 : List Int) (m7 : ByteArray) (m8 m9 : Int) (s : HelS) (w : World) (h : HelAt B w ⟨m0, m1, m2, m3, m4, m5, m6, m7, m8, m9⟩ s) (hl : m6.length ≤ 600) (ht : Tz w) (ho : ownM ⟨m0, m1, m2, m3, m4, m5, m6, m7, m8, m9⟩) (h0 : m0 = 1) :
    Calls Tryd.prog 59 #[.agg (helCs ⟨m0, m1, m2, m3, m4, m5, m6, m7, m8, m9⟩ s)] w (RowPost (bodyB ⟨m0, m1, m2, m3, m4, m5, m6, m7, m8, m9⟩) w) := by
  subst h0
  have hmix := hel_hmix
  have HT := Lib.hid ht
  have HO := Lib.hid ho
  have HL := Lib.hid hl
  obtain ⟨W0, hW⟩ : ∃ W0, W0 = w.alloc (.cells (helCs ⟨1, m1, m2, m3, m4, m5, m6, m7, m8, m9⟩ s) 48) := ⟨_, rfl⟩
  have hbw : Below w.heap.size w W0 := by rw [hW]; exact below_new _
  have P0 : Hid (BX14 B w w.heap.size ⟨1, m1, m2, m3, m4, m5, m6, m7, m8, m9⟩ s W0) := ⟨hbw, by rw [hW]; exact heap_alloc_new w _, h.below hbw⟩
  clear hbw h ho ht hl
  obtain ⟨⟨x0, x1, x2, x3, x4⟩, x5, x6, x7, x8, x9⟩ := P0.out.d.ten
  unfold helCs at hW ⊢
  simp only at hW ⊢ x0 x1 x2 x3 x4 x5 x6 x7 x8 x9
  go_enter Tryd.func59, Tryd.ntmps59
  subst hW
  go_wp2_with fail
  refine (inumber_any m3 _).mono ?_
  rintro e w1 ⟨v3, rfl, ho, hb⟩
  obtain ⟨A3, c3, rfl⟩ := ho.slice
  have P1 : Hid (BX14r B w w.heap.size ⟨1, m1, m2, m3, m4, m5, m6, m7, m8, m9⟩ s A3 c3 (numB m3) w1) := ⟨P0.out.below hb, (P0.out.below hb).d, ho.rds⟩
  clear ho hb x0 x1 x2 x3 x4 x5 x6 x7 x8 x9
  obtain ⟨b3, hb3⟩ : ∃ b, b = (m3 != 0) := ⟨_, rfl⟩
  have HB3 : Hid (decide (((numB m3).length : Int) > 0) = b3) := by
    show _ = _
    rw [hb3]
    have h2 := HO.out
    unfold ownM at h2
    rw [if_pos rfl] at h2
    rcases h2.2 with q | q
    · rw [show m3 = 0 from q.1]; decide
    · have q1 : 1 ≤ m3 ∧ m3 ≤ 65536 := q.1
      rw [numB_yes q1.1 q1.2, show (m3 != 0) = true from by simp; omega]
      simp
  have HXS : Hid (bodyB ⟨1, m1, m2, m3, m4, m5, m6, m7, m8, m9⟩ = (numB m1 ++ (numB m2 ++ (flagB m5 ++ (flagB b3 ++ (numB m3 ++ (giveB m6 ++ numB m4))))))) := by
    show _ = _
    rw [hb3]
    simp [bodyB, List.append_assoc]
  clear hb3
  go_wp2_with fail
  refine wp_lanes5 hmix 22 (BX14r B w w.heap.size ⟨1, m1, m2, m3, m4, m5, m6, m7, m8, m9⟩ s A3 c3 (numB m3)) (fun _ w w' => Below w.heap.size w w') (rowPR [.val (.pointer (some ⟨w.heap.size, 1, none⟩)), .val (.int .i64 m1), .row (numB m1), .val (.pointer (some ⟨w.heap.size, 2, none⟩)), .val (.int .i64 m2), .row (numB m2), .val (.pointer (some ⟨w.heap.size, 5, none⟩)), .val (.bool m5), .row (flagB m5), .val (.slice A3 (numB m3).length c3), .val (.int .i64 ((numB m3).length : Int)), .val (.bool b3), .row (flagB b3), .val (.slice A3 (numB m3).length c3), .val (.pointer (some ⟨w.heap.size, 6, none⟩)), .val (.slice s.A m6.length s.c), .row (giveB m6), .val (.pointer (some ⟨w.heap.size, 4, none⟩)), .val (.int .i64 m4), .row (numB m4), .rows [numB m1, numB m2, flagB m5, flagB b3, numB m3, giveB m6, numB m4], .row (numB m1 ++ (numB m2 ++ (flagB m5 ++ (flagB b3 ++ (numB m3 ++ (giveB m6 ++ numB m4))))))]) (by decide +kernel) (by decide +kernel) 88 rfl (by decide +kernel) (by decide) (fun i w w' h k => h.below k) (fun i j v w w' _ h k => rowPR_below h k) (P1.out.below ((Below.refl _ _).drew)) ?_
  refine ⟨?_, ?_, ?_, ?_, ?_, ?_, ?_, ?_, ?_, ?_, ?_, ?_, ?_, ?_, ?_, ?_, ?_, ?_, ?_, ?_, ?_, ?_, ?_⟩
  · intro a W hs hun hdep
    have e1 := hun 1 (by decide +kernel)
    simp at e1
    refine ⟨rfl, ?_⟩
    unfold Oper.wp
    go_simp
    exact ⟨_, rfl, rfl, Below.refl _ _⟩
  · intro a W hs hun hdep
    have e1 : a.tmps[12]?.getD undef = .pointer (some ⟨w.heap.size, 1, none⟩) := hdep 0 12 (by decide +kernel) rfl
    have c1 : W.cell? ⟨w.heap.size, 1, none⟩ = some (.int .i64 m1) := hs.d.cell 1
    refine ⟨rfl, ?_⟩
    unfold Oper.wp
    go_simp
    exact ⟨_, rfl, rfl, Below.refl _ _⟩
  · intro a W hs hun hdep
    have e1 : a.tmps[13]?.getD undef = .int .i64 m1 := hdep 1 13 (by decide +kernel) rfl
    refine ⟨rfl, ?_⟩
    unfold Oper.wp
    go_simp
    refine (inumber_any m1 _).mono ?_
    rintro e W' ⟨v, rfl, ho, hb⟩
    exact ⟨_, rfl, ho.mono (Nat.zero_le _), hb⟩
  · intro a W hs hun hdep
    have e1 := hun 1 (by decide +kernel)
    simp at e1
    refine ⟨rfl, ?_⟩
    unfold Oper.wp
    go_simp
    exact ⟨_, rfl, rfl, Below.refl _ _⟩
  · intro a W hs hun hdep
    have e1 : a.tmps[15]?.getD undef = .pointer (some ⟨w.heap.size, 2, none⟩) := hdep 3 15 (by decide +kernel) rfl
    have c1 : W.cell? ⟨w.heap.size, 2, none⟩ = some (.int .i64 m2) := hs.d.cell 2
    refine ⟨rfl, ?_⟩
    unfold Oper.wp
    go_simp
    exact ⟨_, rfl, rfl, Below.refl _ _⟩
  · intro a W hs hun hdep
    have e1 : a.tmps[16]?.getD undef = .int .i64 m2 := hdep 4 16 (by decide +kernel) rfl
    refine ⟨rfl, ?_⟩
    unfold Oper.wp
    go_simp
    refine (inumber_any m2 _).mono ?_
    rintro e W' ⟨v, rfl, ho, hb⟩
    exact ⟨_, rfl, ho.mono (Nat.zero_le _), hb⟩
  · intro a W hs hun hdep
    have e1 := hun 1 (by decide +kernel)
    simp at e1
    refine ⟨rfl, ?_⟩
    unfold Oper.wp
    go_simp
    exact ⟨_, rfl, rfl, Below.refl _ _⟩
  · intro a W hs hun hdep
    have e1 : a.tmps[18]?.getD undef = .pointer (some ⟨w.heap.size, 5, none⟩) := hdep 6 18 (by decide +kernel) rfl
    have c1 : W.cell? ⟨w.heap.size, 5, none⟩ = some (.bool m5) := hs.d.cell 5
    refine ⟨rfl, ?_⟩
    unfold Oper.wp
    go_simp
    exact ⟨_, rfl, rfl, Below.refl _ _⟩
  · intro a W hs hun hdep
    have e1 : a.tmps[19]?.getD undef = .bool m5 := hdep 7 19 (by decide +kernel) rfl
    refine ⟨rfl, ?_⟩
    unfold Oper.wp
    go_simp
    refine (flag14_any m5 _).mono ?_
    rintro e W' ⟨v, rfl, ho, hb⟩
    exact ⟨_, rfl, ho.mono (Nat.zero_le _), hb⟩
  · intro a W hs hun hdep
    have e1 := hun 3 (by decide +kernel)
    simp at e1
    refine ⟨rfl, ?_⟩
    unfold Oper.wp
    go_simp
    exact ⟨_, rfl, rfl, Below.refl _ _⟩
  · intro a W hs hun hdep
    have e1 : a.tmps[21]?.getD undef = .slice A3 (numB m3).length c3 := hdep 9 21 (by decide +kernel) rfl
    refine ⟨rfl, ?_⟩
    unfold Oper.wp
    go_simp
    exact ⟨_, rfl, rfl, Below.refl _ _⟩
  · intro a W hs hun hdep
    have e1 : a.tmps[22]?.getD undef = .int .i64 ((numB m3).length : Int) := hdep 10 22 (by decide +kernel) rfl
    have hb := HB3.out
    refine ⟨rfl, ?_⟩
    unfold Oper.wp
    go_simp
    first | exact ⟨_, rfl, congrArg Value.bool hb, Below.refl _ _⟩ | exact ⟨_, rfl, rfl, Below.refl _ _⟩ | exact ⟨_, rfl, (by rw [← hb]; rfl), Below.refl _ _⟩ | exact ⟨_, rfl, (by rw [← hb]; simp [laneP, rowPR]), Below.refl _ _⟩
  · intro a W hs hun hdep
    have e1 : a.tmps[23]?.getD undef = .bool b3 := hdep 11 23 (by decide +kernel) rfl
    refine ⟨rfl, ?_⟩
    unfold Oper.wp
    go_simp
    refine (flag14_any b3 _).mono ?_
    rintro e W' ⟨v, rfl, ho, hb⟩
    exact ⟨_, rfl, ho.mono (Nat.zero_le _), hb⟩
  · intro a W hs hun hdep
    have e1 := hun 3 (by decide +kernel)
    simp at e1
    refine ⟨rfl, ?_⟩
    unfold Oper.wp
    go_simp
    exact ⟨_, rfl, rfl, Below.refl _ _⟩
  · intro a W hs hun hdep
    have e1 := hun 1 (by decide +kernel)
    simp at e1
    refine ⟨rfl, ?_⟩
    unfold Oper.wp
    go_simp
    exact ⟨_, rfl, rfl, Below.refl _ _⟩
  · intro a W hs hun hdep
    have e1 : a.tmps[26]?.getD undef = .pointer (some ⟨w.heap.size, 6, none⟩) := hdep 14 26 (by decide +kernel) rfl
    have c1 : W.cell? ⟨w.heap.size, 6, none⟩ = some (.slice s.A m6.length s.c) := hs.d.cell 6
    refine ⟨rfl, ?_⟩
    unfold Oper.wp
    go_simp
    exact ⟨_, rfl, rfl, Below.refl _ _⟩
  · intro a W hs hun hdep
    have e1 : a.tmps[27]?.getD undef = .slice s.A m6.length s.c := hdep 15 27 (by decide +kernel) rfl
    refine ⟨rfl, ?_⟩
    unfold Oper.wp
    go_simp
    refine (give_any (B := 0) none 0 0 [] s.A m6.length s.c m6 W (Rds.nil _ _ _) hs.b.h (by simp) (by have := HL.out; omega) (HT.out.later hs.b.bl)).mono ?_
    rintro e W' ⟨v, rfl, ho, hb⟩
    exact ⟨_, rfl, ho.mono (Nat.zero_le _), hb⟩
  · intro a W hs hun hdep
    have e1 := hun 1 (by decide +kernel)
    simp at e1
    refine ⟨rfl, ?_⟩
    unfold Oper.wp
    go_simp
    exact ⟨_, rfl, rfl, Below.refl _ _⟩
  · intro a W hs hun hdep
    have e1 : a.tmps[29]?.getD undef = .pointer (some ⟨w.heap.size, 4, none⟩) := hdep 17 29 (by decide +kernel) rfl
    have c1 : W.cell? ⟨w.heap.size, 4, none⟩ = some (.int .i64 m4) := hs.d.cell 4
    refine ⟨rfl, ?_⟩
    unfold Oper.wp
    go_simp
    exact ⟨_, rfl, rfl, Below.refl _ _⟩
  · intro a W hs hun hdep
    have e1 : a.tmps[30]?.getD undef = .int .i64 m4 := hdep 18 30 (by decide +kernel) rfl
    refine ⟨rfl, ?_⟩
    unfold Oper.wp
    go_simp
    refine (inumber_any m4 _).mono ?_
    rintro e W' ⟨v, rfl, ho, hb⟩
    exact ⟨_, rfl, ho.mono (Nat.zero_le _), hb⟩
  · intro a W hs hun hdep
    have r14 : OwnI W 0 .u8 (a.tmps[14]?.getD undef) (numB m1) := hdep 2 14 (by decide +kernel) rfl
    obtain ⟨A14, c14, e14⟩ := r14.slice
    rw [e14] at r14
    have R14 := Lib.hid (r14.rds (B' := 0))
    have O14 := Lib.hid r14
    clear r14
    have r17 : OwnI W 0 .u8 (a.tmps[17]?.getD undef) (numB m2) := hdep 5 17 (by decide +kernel) rfl
    obtain ⟨A17, c17, e17⟩ := r17.slice
    rw [e17] at r17
    have R17 := Lib.hid (r17.rds (B' := 0))
    have O17 := Lib.hid r17
    clear r17
    have r20 : OwnI W 0 .u8 (a.tmps[20]?.getD undef) (flagB m5) := hdep 8 20 (by decide +kernel) rfl
    obtain ⟨A20, c20, e20⟩ := r20.slice
    rw [e20] at r20
    have R20 := Lib.hid (r20.rds (B' := 0))
    have O20 := Lib.hid r20
    clear r20
    have r24 : OwnI W 0 .u8 (a.tmps[24]?.getD undef) (flagB b3) := hdep 12 24 (by decide +kernel) rfl
    obtain ⟨A24, c24, e24⟩ := r24.slice
    rw [e24] at r24
    have R24 := Lib.hid (r24.rds (B' := 0))
    have O24 := Lib.hid r24
    clear r24
    have r28 : OwnI W 0 .u8 (a.tmps[28]?.getD undef) (giveB m6) := hdep 16 28 (by decide +kernel) rfl
    obtain ⟨A28, c28, e28⟩ := r28.slice
    rw [e28] at r28
    have R28 := Lib.hid (r28.rds (B' := 0))
    have O28 := Lib.hid r28
    clear r28
    have r31 : OwnI W 0 .u8 (a.tmps[31]?.getD undef) (numB m4) := hdep 19 31 (by decide +kernel) rfl
    obtain ⟨A31, c31, e31⟩ := r31.slice
    rw [e31] at r31
    have R31 := Lib.hid (r31.rds (B' := 0))
    have O31 := Lib.hid r31
    clear r31
    have e25 : a.tmps[25]?.getD undef = .slice A3 (numB m3).length c3 := hdep 13 25 (by decide +kernel) rfl
    refine ⟨rfl, ?_⟩
    unfold Oper.wp
    go_simp
    refine ⟨_, rfl, ⟨_, rfl, rdl_new fun i xs e => ?_⟩, below_new _⟩
    exact match i, e with
      | 0, e => by cases e; exact ⟨_, _, rfl, R14.out⟩
      | 1, e => by cases e; exact ⟨_, _, rfl, R17.out⟩
      | 2, e => by cases e; exact ⟨_, _, rfl, R20.out⟩
      | 3, e => by cases e; exact ⟨_, _, rfl, R24.out⟩
      | 4, e => by cases e; exact ⟨_, _, rfl, hs.r⟩
      | 5, e => by cases e; exact ⟨_, _, rfl, R28.out⟩
      | 6, e => by cases e; exact ⟨_, _, rfl, R31.out⟩
      | i + 7, e => by simp at e
  · intro a W hs hun hdep
    obtain ⟨g, e1, hl⟩ : laneP (.rows [numB m1, numB m2, flagB m5, flagB b3, numB m3, giveB m6, numB m4]) (a.tmps[32]?.getD undef) W := hdep 20 32 (by decide +kernel) rfl
    simp only [List.length_cons, List.length_nil] at e1
    have hfl : [numB m1, numB m2, flagB m5, flagB b3, numB m3, giveB m6, numB m4].flatten.length ≤ 100000 := by have := numB_le m1; have := numB_le m2; have := numB_le m3; have := numB_le m4; have := giveB_le m6; have := HL.out; simp [flagB]; omega
    have HE : Hid ([numB m1, numB m2, flagB m5, flagB b3, numB m3, giveB m6, numB m4].flatten = (numB m1 ++ (numB m2 ++ (flagB m5 ++ (flagB b3 ++ (numB m3 ++ (giveB m6 ++ numB m4))))))) := by show _ = _; simp
    have HF := Lib.hid hfl
    have HLL := Lib.hid hl
    clear hfl hl
    refine ⟨rfl, ?_⟩
    unfold Oper.wp
    go_simp
    refine (concat_any g 0 7 7 [numB m1, numB m2, flagB m5, flagB b3, numB m3, giveB m6, numB m4] W HLL.out rfl (by omega) (by omega) HF.out).mono ?_
    rintro e W' ⟨v, rfl, ho, hb⟩
    exact ⟨_, rfl, (OwnI.of_eq HE.out ho).mono (Nat.zero_le _), hb⟩
  · intro a W hds hts hs hun hpr
    have hr : OwnI W 0 .u8 (a.tmps[33]?.getD undef) ((numB m1 ++ (numB m2 ++ (flagB m5 ++ (flagB b3 ++ (numB m3 ++ (giveB m6 ++ numB m4))))))) := hpr 21 33 (by decide) rfl
    obtain ⟨A9, c9, e9⟩ := hr.slice
    rw [e9] at hr
    have v1 : a.eval (.tmp 33) = .slice A9 ((numB m1 ++ (numB m2 ++ (flagB m5 ++ (flagB b3 ++ (numB m3 ++ (giveB m6 ++ numB m4))))))).length c9 := by show a.tmps.getD 33 undef = _; simpa using e9
    refine ⟨rfl, ?_⟩
    unfold Oper.wp execOp
    simp only [v1, Sem.run_bind, Result.andThen_ok, Sem.run_pure]
    simp only [Oper.upon, Act.put, wpTail, Exit.then]
    have hts' : a.tmps.size = 88 := by simpa using hts
    go_wp2_with fail
    refine bodyPost_ret (v := .slice A9 ((numB m1 ++ (numB m2 ++ (flagB m5 ++ (flagB b3 ++ (numB m3 ++ (giveB m6 ++ numB m4))))))).length c9) (by simp [results, Tryd.results59, hts']) (by simpa using hds) ?_
    rw [HXS.out]
    exact ⟨A9, c9, rfl, hr.rds, hs.b.bl⟩
set_option maxHeartbeats 6400000 in
set_option maxRecDepth 100000 in
theorem body_k2 {B : Nat} (m0 m1 m2 m3 m4 : Int) (m5 : Bool) (m6 : List Int) (m7 : ByteArray) (m8 m9 : Int) (s : HelS) (w : World) (h : HelAt B w ⟨m0, m1, m2, m3, m4, m5, m6, m7, m8, m9⟩ s) (hl : m6.length ≤ 600) (ht : Tz w) (ho : ownM ⟨m0, m1, m2, m3, m4, m5, m6, m7, m8, m9⟩) (h0 : m0 = 2) :
    Calls Tryd.prog 59 #[.agg (helCs ⟨m0, m1, m2, m3, m4, m5, m6, m7, m8, m9⟩ s)] w (RowPost (bodyB ⟨m0, m1, m2, m3, m4, m5, m6, m7, m8, m9⟩) w) := by
  subst h0
  have hmix := hel_hmix
  have HT := Lib.hid ht
  have HO := Lib.hid ho
  have HL := Lib.hid hl
  obtain ⟨W0, hW⟩ : ∃ W0, W0 = w.alloc (.cells (helCs ⟨2, m1, m2, m3, m4, m5, m6, m7, m8, m9⟩ s) 48) := ⟨_, rfl⟩
  have hbw : Below w.heap.size w W0 := by rw [hW]; exact below_new _
  have P0 : Hid (BX14 B w w.heap.size ⟨2, m1, m2, m3, m4, m5, m6, m7, m8, m9⟩ s W0) := ⟨hbw, by rw [hW]; exact heap_alloc_new w _, h.below hbw⟩
  clear hbw h ho ht hl
  obtain ⟨⟨x0, x1, x2, x3, x4⟩, x5, x6, x7, x8, x9⟩ := P0.out.d.ten
  unfold helCs at hW ⊢
  simp only at hW ⊢ x0 x1 x2 x3 x4 x5 x6 x7 x8 x9
  go_enter Tryd.func59, Tryd.ntmps59
  have hv0 : 0 ≤ m8 := by have h2 := HO.out; simp [ownM] at h2; omega
  subst hW
  obtain ⟨W1, hW1⟩ : ∃ W1, W1 = (w.alloc (.cells #[.int .i64 2, .int .i64 m1, .int .i64 m2, .int .i64 m3, .int .i64 m4, .bool m5, .slice s.A m6.length s.c, .string m7, .int .i64 m8, .int .i64 m9] 48)).alloc (.cells #[.int .u8 (m8 / 16777216 % 256), .int .u8 (m8 / 65536 % 256), .int .u8 (m8 / 256 % 256), .int .u8 (m8 % 256)] 5) := ⟨_, rfl⟩
  have hb1 : Below (w.heap.size + 1) (w.alloc (.cells #[.int .i64 2, .int .i64 m1, .int .i64 m2, .int .i64 m3, .int .i64 m4, .bool m5, .slice s.A m6.length s.c, .string m7, .int .i64 m8, .int .i64 m9] 48)) W1 := by rw [hW1]; have := below_new (w := w.alloc (.cells #[.int .i64 2, .int .i64 m1, .int .i64 m2, .int .i64 m3, .int .i64 m4, .bool m5, .slice s.A m6.length s.c, .string m7, .int .i64 m8, .int .i64 m9] 48)) (.cells #[.int .u8 (m8 / 16777216 % 256), .int .u8 (m8 / 65536 % 256), .int .u8 (m8 / 256 % 256), .int .u8 (m8 % 256)] 5); rwa [World.size_alloc] at this
  have hsz : (w.alloc (.cells #[.int .i64 2, .int .i64 m1, .int .i64 m2, .int .i64 m3, .int .i64 m4, .bool m5, .slice s.A m6.length s.c, .string m7, .int .i64 m8, .int .i64 m9] 48)).heap.size = w.heap.size + 1 := by simp
  have P1 : Hid (BX14r B w w.heap.size ⟨2, m1, m2, m3, m4, m5, m6, m7, m8, m9⟩ s (some ⟨w.heap.size + 1, 0, none⟩) 4 (bigB m8) W1) := by
    have hb1' := hb1
    rw [← hsz] at hb1'
    refine ⟨P0.out.below hb1', (P0.out.below hb1').d, ?_⟩
    rw [hW1, ← hsz]
    exact (OwnI.fresh (B := 0) (xs := bigB m8) (t := 5) (Nat.zero_le _) sp_u8 (by simp [bigB])).rds
  have HXS : Hid (bodyB ⟨2, m1, m2, m3, m4, m5, m6, m7, m8, m9⟩ = [numB m1, numB m2, bigB m8, flagB m5].flatten) := by
    show _ = _
    simp [bodyB, List.append_assoc]
  clear hb1 hsz
  go_wp2_with fail
  rw [← hW1]
  clear hW1 x0 x1 x2 x3 x4 x5 x6 x7 x8 x9
  refine wp_lanes5 hmix 12 (BX14r B w w.heap.size ⟨2, m1, m2, m3, m4, m5, m6, m7, m8, m9⟩ s (some ⟨w.heap.size + 1, 0, none⟩) 4 (bigB m8)) (fun _ w w' => Below w.heap.size w w') (rowPR [.val (.pointer (some ⟨w.heap.size, 1, none⟩)), .val (.int .i64 m1), .row (numB m1), .val (.pointer (some ⟨w.heap.size, 2, none⟩)), .val (.int .i64 m2), .row (numB m2), .val (.slice (some ⟨w.heap.size + 1, 0, none⟩) 4 4), .val (.pointer (some ⟨w.heap.size, 5, none⟩)), .val (.bool m5), .row (flagB m5), .rows [numB m1, numB m2, bigB m8, flagB m5], .row [numB m1, numB m2, bigB m8, flagB m5].flatten]) (by decide +kernel) (by decide +kernel) 88 rfl (by decide +kernel) (by decide) (fun i w w' h k => h.below k) (fun i j v w w' _ h k => rowPR_below h k) (P1.out.below ((Below.refl _ _).drew)) ?_
  refine ⟨?_, ?_, ?_, ?_, ?_, ?_, ?_, ?_, ?_, ?_, ?_, ?_, ?_⟩
  · intro a W hs hun hdep
    have e1 := hun 1 (by decide +kernel)
    simp at e1
    refine ⟨rfl, ?_⟩
    unfold Oper.wp
    go_simp
    exact ⟨_, rfl, rfl, Below.refl _ _⟩
  · intro a W hs hun hdep
    have e1 : a.tmps[52]?.getD undef = .pointer (some ⟨w.heap.size, 1, none⟩) := hdep 0 52 (by decide +kernel) rfl
    have c1 : W.cell? ⟨w.heap.size, 1, none⟩ = some (.int .i64 m1) := hs.d.cell 1
    refine ⟨rfl, ?_⟩
    unfold Oper.wp
    go_simp
    exact ⟨_, rfl, rfl, Below.refl _ _⟩
  · intro a W hs hun hdep
    have e1 : a.tmps[53]?.getD undef = .int .i64 m1 := hdep 1 53 (by decide +kernel) rfl
    refine ⟨rfl, ?_⟩
    unfold Oper.wp
    go_simp
    refine (inumber_any m1 _).mono ?_
    rintro e W' ⟨v, rfl, ho, hb⟩
    exact ⟨_, rfl, ho.mono (Nat.zero_le _), hb⟩
  · intro a W hs hun hdep
    have e1 := hun 1 (by decide +kernel)
    simp at e1
    refine ⟨rfl, ?_⟩
    unfold Oper.wp
    go_simp
    exact ⟨_, rfl, rfl, Below.refl _ _⟩
  · intro a W hs hun hdep
    have e1 : a.tmps[55]?.getD undef = .pointer (some ⟨w.heap.size, 2, none⟩) := hdep 3 55 (by decide +kernel) rfl
    have c1 : W.cell? ⟨w.heap.size, 2, none⟩ = some (.int .i64 m2) := hs.d.cell 2
    refine ⟨rfl, ?_⟩
    unfold Oper.wp
    go_simp
    exact ⟨_, rfl, rfl, Below.refl _ _⟩
  · intro a W hs hun hdep
    have e1 : a.tmps[56]?.getD undef = .int .i64 m2 := hdep 4 56 (by decide +kernel) rfl
    refine ⟨rfl, ?_⟩
    unfold Oper.wp
    go_simp
    refine (inumber_any m2 _).mono ?_
    rintro e W' ⟨v, rfl, ho, hb⟩
    exact ⟨_, rfl, ho.mono (Nat.zero_le _), hb⟩
  · intro a W hs hun hdep
    have e1 := hun 4 (by decide +kernel)
    simp at e1
    refine ⟨rfl, ?_⟩
    unfold Oper.wp
    go_simp
    exact ⟨_, rfl, rfl, Below.refl _ _⟩
  · intro a W hs hun hdep
    have e1 := hun 1 (by decide +kernel)
    simp at e1
    refine ⟨rfl, ?_⟩
    unfold Oper.wp
    go_simp
    exact ⟨_, rfl, rfl, Below.refl _ _⟩
  · intro a W hs hun hdep
    have e1 : a.tmps[59]?.getD undef = .pointer (some ⟨w.heap.size, 5, none⟩) := hdep 7 59 (by decide +kernel) rfl
    have c1 : W.cell? ⟨w.heap.size, 5, none⟩ = some (.bool m5) := hs.d.cell 5
    refine ⟨rfl, ?_⟩
    unfold Oper.wp
    go_simp
    exact ⟨_, rfl, rfl, Below.refl _ _⟩
  · intro a W hs hun hdep
    have e1 : a.tmps[60]?.getD undef = .bool m5 := hdep 8 60 (by decide +kernel) rfl
    refine ⟨rfl, ?_⟩
    unfold Oper.wp
    go_simp
    refine (flag14_any m5 _).mono ?_
    rintro e W' ⟨v, rfl, ho, hb⟩
    exact ⟨_, rfl, ho.mono (Nat.zero_le _), hb⟩
  · intro a W hs hun hdep
    have r54 : OwnI W 0 .u8 (a.tmps[54]?.getD undef) (numB m1) := hdep 2 54 (by decide +kernel) rfl
    obtain ⟨A54, c54, e54⟩ := r54.slice
    rw [e54] at r54
    have R54 := Lib.hid (r54.rds (B' := 0))
    have O54 := Lib.hid r54
    clear r54
    have r57 : OwnI W 0 .u8 (a.tmps[57]?.getD undef) (numB m2) := hdep 5 57 (by decide +kernel) rfl
    obtain ⟨A57, c57, e57⟩ := r57.slice
    rw [e57] at r57
    have R57 := Lib.hid (r57.rds (B' := 0))
    have O57 := Lib.hid r57
    clear r57
    have r61 : OwnI W 0 .u8 (a.tmps[61]?.getD undef) (flagB m5) := hdep 9 61 (by decide +kernel) rfl
    obtain ⟨A61, c61, e61⟩ := r61.slice
    rw [e61] at r61
    have R61 := Lib.hid (r61.rds (B' := 0))
    have O61 := Lib.hid r61
    clear r61
    have e58 : a.tmps[58]?.getD undef = .slice (some ⟨w.heap.size + 1, 0, none⟩) 4 4 := hdep 6 58 (by decide +kernel) rfl
    refine ⟨rfl, ?_⟩
    unfold Oper.wp
    go_simp
    refine ⟨_, rfl, ⟨_, rfl, rdl_new fun i xs e => ?_⟩, below_new _⟩
    exact match i, e with
      | 0, e => by cases e; exact ⟨_, _, rfl, R54.out⟩
      | 1, e => by cases e; exact ⟨_, _, rfl, R57.out⟩
      | 2, e => by cases e; exact ⟨_, _, rfl, hs.r⟩
      | 3, e => by cases e; exact ⟨_, _, rfl, R61.out⟩
      | i + 4, e => by simp at e
  · intro a W hs hun hdep
    obtain ⟨g, e1, hl⟩ : laneP (.rows [numB m1, numB m2, bigB m8, flagB m5]) (a.tmps[62]?.getD undef) W := hdep 10 62 (by decide +kernel) rfl
    simp only [List.length_cons, List.length_nil] at e1
    have hfl : [numB m1, numB m2, bigB m8, flagB m5].flatten.length ≤ 100000 := by have := numB_le m1; have := numB_le m2; simp [flagB, bigB]; omega
    have HF := Lib.hid hfl
    have HLL := Lib.hid hl
    clear hfl hl
    refine ⟨rfl, ?_⟩
    unfold Oper.wp
    go_simp
    refine (concat_any g 0 4 4 [numB m1, numB m2, bigB m8, flagB m5] W HLL.out rfl (by omega) (by omega) HF.out).mono ?_
    rintro e W' ⟨v, rfl, ho, hb⟩
    exact ⟨_, rfl, ho.mono (Nat.zero_le _), hb⟩
  · intro a W hds hts hs hun hpr
    have hr : OwnI W 0 .u8 (a.tmps[63]?.getD undef) ([numB m1, numB m2, bigB m8, flagB m5].flatten) := hpr 11 63 (by decide) rfl
    obtain ⟨A9, c9, e9⟩ := hr.slice
    rw [e9] at hr
    have v1 : a.eval (.tmp 63) = .slice A9 ([numB m1, numB m2, bigB m8, flagB m5].flatten).length c9 := by show a.tmps.getD 63 undef = _; simpa using e9
    refine ⟨rfl, ?_⟩
    unfold Oper.wp execOp
    simp only [v1, Sem.run_bind, Result.andThen_ok, Sem.run_pure]
    simp only [Oper.upon, Act.put, wpTail, Exit.then]
    have hts' : a.tmps.size = 88 := by simpa using hts
    go_wp2_with fail
    refine bodyPost_ret (v := .slice A9 ([numB m1, numB m2, bigB m8, flagB m5].flatten).length c9) (by simp [results, Tryd.results59, hts']) (by simpa using hds) ?_
    rw [HXS.out]
    exact ⟨A9, c9, rfl, hr.rds, hs.b.bl⟩
set_option maxHeartbeats 6400000 in
set_option maxRecDepth 100000 in
theorem body_k4 {B : Nat} (m0 m1 m2 m3 m4 : Int) (m5 : Bool) (m6 : List Int) (m7 : ByteArray) (m8 m9 : Int) (s : HelS) (w : World) (h : HelAt B w ⟨m0, m1, m2, m3, m4, m5, m6, m7, m8, m9⟩ s) (hl : m6.length ≤ 600) (ht : Tz w) (ho : ownM ⟨m0, m1, m2, m3, m4, m5, m6, m7, m8, m9⟩) (h0 : m0 = 4) :
    Calls Tryd.prog 59 #[.agg (helCs ⟨m0, m1, m2, m3, m4, m5, m6, m7, m8, m9⟩ s)] w (RowPost (bodyB ⟨m0, m1, m2, m3, m4, m5, m6, m7, m8, m9⟩) w) := by
  subst h0
  have hmix := hel_hmix
  have HT := Lib.hid ht
  have HO := Lib.hid ho
  have HL := Lib.hid hl
  obtain ⟨W0, hW⟩ : ∃ W0, W0 = w.alloc (.cells (helCs ⟨4, m1, m2, m3, m4, m5, m6, m7, m8, m9⟩ s) 48) := ⟨_, rfl⟩
  have hbw : Below w.heap.size w W0 := by rw [hW]; exact below_new _
  have P0 : Hid (BX14 B w w.heap.size ⟨4, m1, m2, m3, m4, m5, m6, m7, m8, m9⟩ s W0) := ⟨hbw, by rw [hW]; exact heap_alloc_new w _, h.below hbw⟩
  clear hbw h ho ht hl
  obtain ⟨⟨x0, x1, x2, x3, x4⟩, x5, x6, x7, x8, x9⟩ := P0.out.d.ten
  unfold helCs at hW ⊢
  simp only at hW ⊢ x0 x1 x2 x3 x4 x5 x6 x7 x8 x9
  go_enter Tryd.func59, Tryd.ntmps59
  subst hW
  have HXS : Hid (bodyB ⟨4, m1, m2, m3, m4, m5, m6, m7, m8, m9⟩ = numB m3 ++ varB m9) := by show _ = _; simp [bodyB]
  go_wp2_with fail
  clear x0 x1 x2 x3 x4 x5 x6 x7 x8 x9
  refine wp_lanes5 hmix 6 (BX14 B w w.heap.size ⟨4, m1, m2, m3, m4, m5, m6, m7, m8, m9⟩ s) (fun _ w w' => Below w.heap.size w w') (rowPR [.val (.pointer (some ⟨w.heap.size, 3, none⟩)), .val (.int .i64 m3), .row (numB m3), .val (.pointer (some ⟨w.heap.size, 9, none⟩)), .val (.int .i64 m9), .row (numB m3 ++ varB m9)]) (by decide +kernel) (by decide +kernel) 88 rfl (by decide +kernel) (by decide) (fun i w w' h k => h.below k) (fun i j v w w' _ h k => rowPR_below h k) (P0.out.below ((Below.refl _ _).drew)) ?_
  refine ⟨?_, ?_, ?_, ?_, ?_, ?_, ?_⟩
  · intro a W hs hun hdep
    have e1 := hun 1 (by decide +kernel)
    simp at e1
    refine ⟨rfl, ?_⟩
    unfold Oper.wp
    go_simp
    exact ⟨_, rfl, rfl, Below.refl _ _⟩
  · intro a W hs hun hdep
    have e1 : a.tmps[66]?.getD undef = .pointer (some ⟨w.heap.size, 3, none⟩) := hdep 0 66 (by decide +kernel) rfl
    have c1 : W.cell? ⟨w.heap.size, 3, none⟩ = some (.int .i64 m3) := hs.d.cell 3
    refine ⟨rfl, ?_⟩
    unfold Oper.wp
    go_simp
    exact ⟨_, rfl, rfl, Below.refl _ _⟩
  · intro a W hs hun hdep
    have e1 : a.tmps[67]?.getD undef = .int .i64 m3 := hdep 1 67 (by decide +kernel) rfl
    refine ⟨rfl, ?_⟩
    unfold Oper.wp
    go_simp
    refine (inumber_any m3 _).mono ?_
    rintro e W' ⟨v, rfl, ho, hb⟩
    exact ⟨_, rfl, ho.mono (Nat.zero_le _), hb⟩
  · intro a W hs hun hdep
    have e1 := hun 1 (by decide +kernel)
    simp at e1
    refine ⟨rfl, ?_⟩
    unfold Oper.wp
    go_simp
    exact ⟨_, rfl, rfl, Below.refl _ _⟩
  · intro a W hs hun hdep
    have e1 : a.tmps[69]?.getD undef = .pointer (some ⟨w.heap.size, 9, none⟩) := hdep 3 69 (by decide +kernel) rfl
    have c1 : W.cell? ⟨w.heap.size, 9, none⟩ = some (.int .i64 m9) := hs.d.cell 9
    refine ⟨rfl, ?_⟩
    unfold Oper.wp
    go_simp
    exact ⟨_, rfl, rfl, Below.refl _ _⟩
  · intro a W hs hun hdep
    have r68 : OwnI W 0 .u8 (a.tmps[68]?.getD undef) (numB m3) := hdep 2 68 (by decide +kernel) rfl
    obtain ⟨A68, c68, e68⟩ := r68.slice
    rw [e68] at r68
    have R68 := Lib.hid (r68.rds (B' := 0))
    have O68 := Lib.hid r68
    clear r68
    have e1 : a.tmps[70]?.getD undef = .int .i64 m9 := hdep 4 70 (by decide +kernel) rfl
    refine ⟨rfl, ?_⟩
    unfold Oper.wp
    go_simp
    refine (vappend_any A68 _ c68 (numB m3) m9 W R68.out (by have := numB_le m3; omega) (HT.out.later hs.bl)).mono ?_
    rintro e W' ⟨v, rfl, ho, hb⟩
    exact ⟨_, rfl, ho.mono (Nat.zero_le _), hb⟩
  · intro a W hds hts hs hun hpr
    have hr : OwnI W 0 .u8 (a.tmps[71]?.getD undef) (numB m3 ++ varB m9) := hpr 5 71 (by decide) rfl
    obtain ⟨A9, c9, e9⟩ := hr.slice
    rw [e9] at hr
    have v1 : a.eval (.tmp 71) = .slice A9 (numB m3 ++ varB m9).length c9 := by show a.tmps.getD 71 undef = _; simpa using e9
    refine ⟨rfl, ?_⟩
    unfold Oper.wp execOp
    simp only [v1, Sem.run_bind, Result.andThen_ok, Sem.run_pure]
    simp only [Oper.upon, Act.put, wpTail, Exit.then]
    have hts' : a.tmps.size = 88 := by simpa using hts
    go_wp2_with fail
    refine bodyPost_ret (v := .slice A9 (numB m3 ++ varB m9).length c9) (by simp [results, Tryd.results59, hts']) (by simpa using hds) ?_
    rw [HXS.out]
    exact ⟨A9, c9, rfl, hr.rds, hs.bl⟩
set_option maxHeartbeats 6400000 in
set_option maxRecDepth 100000 in
theorem body_k8 {B : Nat} (m0 m1 m2 m3 m4 : Int) (m5 : Bool) (m6 : List Int) (m7 : ByteArray) (m8 m9 : Int) (s : HelS) (w : World) (h : HelAt B w ⟨m0, m1, m2, m3, m4, m5, m6, m7, m8, m9⟩ s) (hl : m6.length ≤ 600) (ht : Tz w) (ho : ownM ⟨m0, m1, m2, m3, m4, m5, m6, m7, m8, m9⟩) (h0 : m0 = 8) :
    Calls Tryd.prog 59 #[.agg (helCs ⟨m0, m1, m2, m3, m4, m5, m6, m7, m8, m9⟩ s)] w (RowPost (bodyB ⟨m0, m1, m2, m3, m4, m5, m6, m7, m8, m9⟩) w) := by
  subst h0
  have hmix := hel_hmix
  have HT := Lib.hid ht
  have HO := Lib.hid ho
  have HL := Lib.hid hl
  obtain ⟨W0, hW⟩ : ∃ W0, W0 = w.alloc (.cells (helCs ⟨8, m1, m2, m3, m4, m5, m6, m7, m8, m9⟩ s) 48) := ⟨_, rfl⟩
  have hbw : Below w.heap.size w W0 := by rw [hW]; exact below_new _
  have P0 : Hid (BX14 B w w.heap.size ⟨8, m1, m2, m3, m4, m5, m6, m7, m8, m9⟩ s W0) := ⟨hbw, by rw [hW]; exact heap_alloc_new w _, h.below hbw⟩
  clear hbw h ho ht hl
  obtain ⟨⟨x0, x1, x2, x3, x4⟩, x5, x6, x7, x8, x9⟩ := P0.out.d.ten
  unfold helCs at hW ⊢
  simp only at hW ⊢ x0 x1 x2 x3 x4 x5 x6 x7 x8 x9
  go_enter Tryd.func59, Tryd.ntmps59
  subst hW
  have HXS : Hid (bodyB ⟨8, m1, m2, m3, m4, m5, m6, m7, m8, m9⟩ = flagB m5 ++ giveB m6) := by show _ = _; simp [bodyB]
  go_wp2_with fail
  clear x0 x1 x2 x3 x4 x5 x6 x7 x8 x9
  refine wp_lanes5 hmix 6 (BX14 B w w.heap.size ⟨8, m1, m2, m3, m4, m5, m6, m7, m8, m9⟩ s) (fun _ w w' => Below w.heap.size w w') (rowPR [.val (.pointer (some ⟨w.heap.size, 5, none⟩)), .val (.bool m5), .row (flagB m5), .val (.pointer (some ⟨w.heap.size, 6, none⟩)), .val (.slice s.A m6.length s.c), .row (flagB m5 ++ giveB m6)]) (by decide +kernel) (by decide +kernel) 88 rfl (by decide +kernel) (by decide) (fun i w w' h k => h.below k) (fun i j v w w' _ h k => rowPR_below h k) (P0.out.below ((Below.refl _ _).drew)) ?_
  refine ⟨?_, ?_, ?_, ?_, ?_, ?_, ?_⟩
  · intro a W hs hun hdep
    have e1 := hun 1 (by decide +kernel)
    simp at e1
    refine ⟨rfl, ?_⟩
    unfold Oper.wp
    go_simp
    exact ⟨_, rfl, rfl, Below.refl _ _⟩
  · intro a W hs hun hdep
    have e1 : a.tmps[74]?.getD undef = .pointer (some ⟨w.heap.size, 5, none⟩) := hdep 0 74 (by decide +kernel) rfl
    have c1 : W.cell? ⟨w.heap.size, 5, none⟩ = some (.bool m5) := hs.d.cell 5
    refine ⟨rfl, ?_⟩
    unfold Oper.wp
    go_simp
    exact ⟨_, rfl, rfl, Below.refl _ _⟩
  · intro a W hs hun hdep
    have e1 : a.tmps[75]?.getD undef = .bool m5 := hdep 1 75 (by decide +kernel) rfl
    refine ⟨rfl, ?_⟩
    unfold Oper.wp
    go_simp
    refine (flag14_any m5 _).mono ?_
    rintro e W' ⟨v, rfl, ho, hb⟩
    exact ⟨_, rfl, ho.mono (Nat.zero_le _), hb⟩
  · intro a W hs hun hdep
    have e1 := hun 1 (by decide +kernel)
    simp at e1
    refine ⟨rfl, ?_⟩
    unfold Oper.wp
    go_simp
    exact ⟨_, rfl, rfl, Below.refl _ _⟩
  · intro a W hs hun hdep
    have e1 : a.tmps[77]?.getD undef = .pointer (some ⟨w.heap.size, 6, none⟩) := hdep 3 77 (by decide +kernel) rfl
    have c1 : W.cell? ⟨w.heap.size, 6, none⟩ = some (.slice s.A m6.length s.c) := hs.d.cell 6
    refine ⟨rfl, ?_⟩
    unfold Oper.wp
    go_simp
    exact ⟨_, rfl, rfl, Below.refl _ _⟩
  · intro a W hs hun hdep
    have r76 : OwnI W 0 .u8 (a.tmps[76]?.getD undef) (flagB m5) := hdep 2 76 (by decide +kernel) rfl
    obtain ⟨A76, c76, e76⟩ := r76.slice
    rw [e76] at r76
    have R76 := Lib.hid (r76.rds (B' := 0))
    have O76 := Lib.hid r76
    clear r76
    have e1 : a.tmps[78]?.getD undef = .slice s.A m6.length s.c := hdep 4 78 (by decide +kernel) rfl
    refine ⟨rfl, ?_⟩
    unfold Oper.wp
    go_simp
    refine (give_any A76 _ c76 (flagB m5) s.A m6.length s.c m6 W R76.out hs.h (by simp [flagB]) (by have := HL.out; omega) (HT.out.later hs.bl)).mono ?_
    rintro e W' ⟨v, rfl, ho, hb⟩
    exact ⟨_, rfl, ho.mono (Nat.zero_le _), hb⟩
  · intro a W hds hts hs hun hpr
    have hr : OwnI W 0 .u8 (a.tmps[79]?.getD undef) (flagB m5 ++ giveB m6) := hpr 5 79 (by decide) rfl
    obtain ⟨A9, c9, e9⟩ := hr.slice
    rw [e9] at hr
    have v1 : a.eval (.tmp 79) = .slice A9 (flagB m5 ++ giveB m6).length c9 := by show a.tmps.getD 79 undef = _; simpa using e9
    refine ⟨rfl, ?_⟩
    unfold Oper.wp execOp
    simp only [v1, Sem.run_bind, Result.andThen_ok, Sem.run_pure]
    simp only [Oper.upon, Act.put, wpTail, Exit.then]
    have hts' : a.tmps.size = 88 := by simpa using hts
    go_wp2_with fail
    refine bodyPost_ret (v := .slice A9 (flagB m5 ++ giveB m6).length c9) (by simp [results, Tryd.results59, hts']) (by simpa using hds) ?_
    rw [HXS.out]
    exact ⟨A9, c9, rfl, hr.rds, hs.bl⟩
set_option maxHeartbeats 6400000 in
set_option maxRecDepth 100000 in
theorem body_k11 {B : Nat} (m0 m1 m2 m3 m4 : Int) (m5 : Bool) (m6 : List Int) (m7 : ByteArray) (m8 m9 : Int) (s : HelS) (w : World) (h : HelAt B w ⟨m0, m1, m2, m3, m4, m5, m6, m7, m8, m9⟩ s) (hl : m6.length ≤ 600) (ht : Tz w) (ho : ownM ⟨m0, m1, m2, m3, m4, m5, m6, m7, m8, m9⟩) (h0 : m0 = 11) :
    Calls Tryd.prog 59 #[.agg (helCs ⟨m0, m1, m2, m3, m4, m5, m6, m7, m8, m9⟩ s)] w (RowPost (bodyB ⟨m0, m1, m2, m3, m4, m5, m6, m7, m8, m9⟩) w) := by
  subst h0
  have hmix := hel_hmix
  have HT := Lib.hid ht
  have HO := Lib.hid ho
  have HL := Lib.hid hl
  obtain ⟨W0, hW⟩ : ∃ W0, W0 = w.alloc (.cells (helCs ⟨11, m1, m2, m3, m4, m5, m6, m7, m8, m9⟩ s) 48) := ⟨_, rfl⟩
  have hbw : Below w.heap.size w W0 := by rw [hW]; exact below_new _
  have P0 : Hid (BX14 B w w.heap.size ⟨11, m1, m2, m3, m4, m5, m6, m7, m8, m9⟩ s W0) := ⟨hbw, by rw [hW]; exact heap_alloc_new w _, h.below hbw⟩
  clear hbw h ho ht hl
  obtain ⟨⟨x0, x1, x2, x3, x4⟩, x5, x6, x7, x8, x9⟩ := P0.out.d.ten
  unfold helCs at hW ⊢
  simp only at hW ⊢ x0 x1 x2 x3 x4 x5 x6 x7 x8 x9
  go_enter Tryd.func59, Tryd.ntmps59
  subst hW
  have hnm : m7.size ≤ 1000000 := by have h2 := HO.out; simp [ownM] at h2; omega
  have HXS : Hid (bodyB ⟨11, m1, m2, m3, m4, m5, m6, m7, m8, m9⟩ = nameL m7) := by show _ = _; simp [bodyB]
  go_wp2_with ((with_reducible show wpList _ _ _ (Oper.mk _ (Op.convert _ _ _) _ _ _ _ :: _) _ _); refine wp_str14 rfl _ rfl m7 rfl hnm ?_)
  intro c7 w7 hr7 hb7
  have P1 := Lib.hid (P0.out.below (by rw [World.size_alloc]; exact hb7))
  have HR := Lib.hid (hr7 0)
  clear hr7 hb7 hnm
  go_wp2_with fail
  go_ret
  rw [HXS.out]
  refine ⟨_, c7, ?_, HR.out, P1.out.bl⟩
  rw [nameL_len]
  rfl
set_option maxHeartbeats 6400000 in
set_option maxRecDepth 100000 in
theorem body_k15 {B : Nat} (m0 m1 m2 m3 m4 : Int) (m5 : Bool) (m6 : List Int) (m7 : ByteArray) (m8 m9 : Int) (s : HelS) (w : World) (h : HelAt B w ⟨m0, m1, m2, m3, m4, m5, m6, m7, m8, m9⟩ s) (hl : m6.length ≤ 600) (ht : Tz w) (ho : ownM ⟨m0, m1, m2, m3, m4, m5, m6, m7, m8, m9⟩) (h0 : m0 = 15) :
    Calls Tryd.prog 59 #[.agg (helCs ⟨m0, m1, m2, m3, m4, m5, m6, m7, m8, m9⟩ s)] w (RowPost (bodyB ⟨m0, m1, m2, m3, m4, m5, m6, m7, m8, m9⟩) w) := by
  subst h0
  have hmix := hel_hmix
  have HT := Lib.hid ht
  have HO := Lib.hid ho
  have HL := Lib.hid hl
  obtain ⟨W0, hW⟩ : ∃ W0, W0 = w.alloc (.cells (helCs ⟨15, m1, m2, m3, m4, m5, m6, m7, m8, m9⟩ s) 48) := ⟨_, rfl⟩
  have hbw : Below w.heap.size w W0 := by rw [hW]; exact below_new _
  have P0 : Hid (BX14 B w w.heap.size ⟨15, m1, m2, m3, m4, m5, m6, m7, m8, m9⟩ s W0) := ⟨hbw, by rw [hW]; exact heap_alloc_new w _, h.below hbw⟩
  clear hbw h ho ht hl
  obtain ⟨⟨x0, x1, x2, x3, x4⟩, x5, x6, x7, x8, x9⟩ := P0.out.d.ten
  unfold helCs at hW ⊢
  simp only at hW ⊢ x0 x1 x2 x3 x4 x5 x6 x7 x8 x9
  go_enter Tryd.func59, Tryd.ntmps59
  subst hW
  have HXS : Hid (bodyB ⟨15, m1, m2, m3, m4, m5, m6, m7, m8, m9⟩ = numB m4) := by show _ = _; simp [bodyB]
  go_wp2_with fail
  refine (inumber_any m4 _).mono ?_
  rintro e w1 ⟨v3, rfl, ho, hb⟩
  obtain ⟨A3, c3, rfl⟩ := ho.slice
  have P1 := Lib.hid (P0.out.below hb)
  have HR := Lib.hid (ho.rds (B' := 0))
  clear ho hb
  go_wp2_with fail
  go_ret
  rw [HXS.out]
  exact ⟨A3, c3, rfl, HR.out, P1.out.bl⟩
set_option maxHeartbeats 6400000 in
set_option maxRecDepth 100000 in
theorem body_k20 {B : Nat} (m0 m1 m2 m3 m4 : Int) (m5 : Bool) (m6 : List Int) (m7 : ByteArray) (m8 m9 : Int) (s : HelS) (w : World) (h : HelAt B w ⟨m0, m1, m2, m3, m4, m5, m6, m7, m8, m9⟩ s) (hl : m6.length ≤ 600) (ht : Tz w) (ho : ownM ⟨m0, m1, m2, m3, m4, m5, m6, m7, m8, m9⟩) (h0 : m0 = 20) :
    Calls Tryd.prog 59 #[.agg (helCs ⟨m0, m1, m2, m3, m4, m5, m6, m7, m8, m9⟩ s)] w (RowPost (bodyB ⟨m0, m1, m2, m3, m4, m5, m6, m7, m8, m9⟩) w) := by
  subst h0
  have hmix := hel_hmix
  have HT := Lib.hid ht
  have HO := Lib.hid ho
  have HL := Lib.hid hl
  obtain ⟨W0, hW⟩ : ∃ W0, W0 = w.alloc (.cells (helCs ⟨20, m1, m2, m3, m4, m5, m6, m7, m8, m9⟩ s) 48) := ⟨_, rfl⟩
  have hbw : Below w.heap.size w W0 := by rw [hW]; exact below_new _
  have P0 : Hid (BX14 B w w.heap.size ⟨20, m1, m2, m3, m4, m5, m6, m7, m8, m9⟩ s W0) := ⟨hbw, by rw [hW]; exact heap_alloc_new w _, h.below hbw⟩
  clear hbw h ho ht hl
  obtain ⟨⟨x0, x1, x2, x3, x4⟩, x5, x6, x7, x8, x9⟩ := P0.out.d.ten
  unfold helCs at hW ⊢
  simp only at hW ⊢ x0 x1 x2 x3 x4 x5 x6 x7 x8 x9
  go_enter Tryd.func59, Tryd.ntmps59
  subst hW
  have HXS : Hid (bodyB ⟨20, m1, m2, m3, m4, m5, m6, m7, m8, m9⟩ = numB m4) := by show _ = _; simp [bodyB]
  go_wp2_with fail
  refine (inumber_any m4 _).mono ?_
  rintro e w1 ⟨v3, rfl, ho, hb⟩
  obtain ⟨A3, c3, rfl⟩ := ho.slice
  have P1 := Lib.hid (P0.out.below hb)
  have HR := Lib.hid (ho.rds (B' := 0))
  clear ho hb
  go_wp2_with fail
  go_ret
  rw [HXS.out]
  exact ⟨A3, c3, rfl, HR.out, P1.out.bl⟩
theorem body_any {B : Nat} (m : Hel) (s : HelS) (w : World) (h : HelAt B w m s) (hl : m.params.length ≤ 600) (ht : Tz w) (ho : ownM m) :
    Calls Tryd.prog 59 #[.agg (helCs m s)] w (RowPost (bodyB m) w) := by
  have hk := ownM_kind ho
  obtain ⟨m0, m1, m2, m3, m4, m5, m6, m7, m8, m9⟩ := m
  simp only at hk
  rcases hk with q | q | q | q | q | q | q
  · exact body_k1 m0 m1 m2 m3 m4 m5 m6 m7 m8 m9 s w h hl ht ho q
  · exact body_k2 m0 m1 m2 m3 m4 m5 m6 m7 m8 m9 s w h hl ht ho q
  · exact body_k4 m0 m1 m2 m3 m4 m5 m6 m7 m8 m9 s w h hl ht ho q
  · exact body_k8 m0 m1 m2 m3 m4 m5 m6 m7 m8 m9 s w h hl ht ho q
  · exact body_k11 m0 m1 m2 m3 m4 m5 m6 m7 m8 m9 s w h hl ht ho q
  · exact body_k15 m0 m1 m2 m3 m4 m5 m6 m7 m8 m9 s w h hl ht ho q
  · exact body_k20 m0 m1 m2 m3 m4 m5 m6 m7 m8 m9 s w h hl ht ho q
end Go.Proofs.YtbfgoojpbhlboaaDoor
