/- SpecialReads: the walk. No condition. -/
import Derived.Test.YtomopjpfdmpgpaaReadLp
import Derived.Test.YtomopjpfdmpgpaaListed
set_option linter.unusedVariables false
set_option linter.unusedSimpArgs false
namespace Go.Proofs.Ytomopjpfdmpgpaa
open Go Go.RowKit

/-- A list's box. -/
def LBox (w : World) (g : Nat) (T : TypeId) (A1 : Option Addr) (n1 c1 : Nat) (A2 : Option Addr) (n2 c2 : Nat) (A3 : Option Addr) (n3 c3 : Nat) : Prop := w.heap[g]? = some (.cells #[.slice A1 n1 c1, .slice A2 n2 c2, .slice A3 n3 c3] T (0, 0))
theorem LBox.below {w w' : World} {g : Nat} {T : TypeId} {A1 A2 A3 : Option Addr} {n1 c1 n2 c2 n3 c3 : Nat} (h : LBox w g T A1 n1 c1 A2 n2 c2 A3 n3 c3) (hb : Below w.heap.size w w') : LBox w' g T A1 n1 c1 A2 n2 c2 A3 n3 c3 := (hb.block _ (lt_of_get h)).trans h
theorem LBox.cells {w : World} {g : Nat} {T : TypeId} {A1 A2 A3 : Option Addr} {n1 c1 n2 c2 n3 c3 : Nat} (h : LBox w g T A1 n1 c1 A2 n2 c2 A3 n3 c3) : w.cell? ⟨g, 0, none⟩ = some (.slice A1 n1 c1) ∧ w.cell? ⟨g, 1, none⟩ = some (.slice A2 n2 c2) ∧ w.cell? ⟨g, 2, none⟩ = some (.slice A3 n3 c3) := by
  refine ⟨?_, ?_, ?_⟩
  · rw [cell_of_row w g 0 _ _ _ h]; rfl
  · rw [cell_of_row w g 1 _ _ _ h]; rfl
  · rw [cell_of_row w g 2 _ _ _ h]; rfl
/-- A retry's box. -/
def RBox (w : World) (g : Nat) (T : TypeId) (v : Int) (A1 : Option Addr) (n1 c1 : Nat) (A2 : Option Addr) (n2 c2 : Nat) (t u : Int) : Prop := w.heap[g]? = some (.cells #[.int .i64 v, .slice A1 n1 c1, .slice A2 n2 c2, .int .i64 t, .int .i64 u] T (0, 0))
theorem RBox.below {w w' : World} {g : Nat} {T : TypeId} {A1 A2 : Option Addr} {n1 c1 n2 c2 : Nat} {v t u : Int} (h : RBox w g T v A1 n1 c1 A2 n2 c2 t u) (hb : Below w.heap.size w w') : RBox w' g T v A1 n1 c1 A2 n2 c2 t u := (hb.block _ (lt_of_get h)).trans h
theorem RBox.cells {w : World} {g : Nat} {T : TypeId} {A1 A2 : Option Addr} {n1 c1 n2 c2 : Nat} {v t u : Int} (h : RBox w g T v A1 n1 c1 A2 n2 c2 t u) : w.cell? ⟨g, 0, none⟩ = some (.int .i64 v) ∧ w.cell? ⟨g, 1, none⟩ = some (.slice A1 n1 c1) ∧ w.cell? ⟨g, 2, none⟩ = some (.slice A2 n2 c2) ∧ w.cell? ⟨g, 3, none⟩ = some (.int .i64 t) ∧ w.cell? ⟨g, 4, none⟩ = some (.int .i64 u) := by
  refine ⟨?_, ?_, ?_, ?_, ?_⟩
  · rw [cell_of_row w g 0 _ _ _ h]; rfl
  · rw [cell_of_row w g 1 _ _ _ h]; rfl
  · rw [cell_of_row w g 2 _ _ _ h]; rfl
  · rw [cell_of_row w g 3 _ _ _ h]; rfl
  · rw [cell_of_row w g 4 _ _ _ h]; rfl
set_option maxHeartbeats 3200000 in
set_option maxRecDepth 100000 in
theorem specialReads_walk (w : World) (A : Option Addr) (n c : Nat) (xs : List Int) (h : Rds w.heap.size w .u8 A n c xs) (hb : Byt xs) :
    Calls Try.prog 3 #[.slice A n c] w fun e w' => e = .returned (.bool true) ∧ Below w.heap.size w w' := by
  have HL := Lib.hid h.len
  have HB := Lib.hid hb
  have hcap := h.cap
  have hmax := h.max
  have H := Lib.hid h
  clear h hb
  by_cases hn : n ≤ 300
  rotate_left
  · have hn' : ¬ (n : Int) ≤ 300 := by omega
    go_enter Try.func3, Try.ntmps3
    go_wp2_with fail
    go_ret
    exact ⟨rfl, Below.refl _ _⟩
  have hn' : ¬ 300 < (n : Int) := by omega
  go_enter Try.func3, Try.ntmps3
  go_wp2_with (at_builtin; refine wp_app_u8 (xs := []) (ys := xs) rfl _ _ rfl rfl rfl (OwnI.empty (B := w.heap.size) (Nat.le_refl _) sp_u8) ?_ HL.out ?_ ?_ ?_)
  · exact (H.out.below (below_new _)).cell
  · omega
  intro v1 w1 hv1 hg1 hb1
  try simp only [List.nil_append] at hv1
  have B1 : Hid (Below w.heap.size w w1) := ((Below.refl _ _).alloc (Nat.le_refl _) _).trans hb1
  obtain ⟨A1, c1, rfl⟩ := hv1.slice
  have key := readList8_any w1 (hv1.rds (B' := 0)) HB.out
  clear hv1 hg1 hb1
  obtain ⟨r, hr⟩ : ∃ r, r = readL xs := ⟨_, rfl⟩
  obtain ⟨rr, hrr⟩ : ∃ rr, rr = readR xs := ⟨_, rfl⟩
  rw [← hr] at key
  have HR := Lib.hid hr
  have HRR := Lib.hid hrr
  clear hr hrr
  go_wp2_with fail
  refine key.mono ?_
  clear key
  rintro e w2 ⟨hb2, P1, d1, P2, d2, P3, d3, rfl, s1, s2, s3⟩
  have B2 : Hid (Below w.heap.size w w2) := below_next B1.out B1.out.size hb2
  clear hb2
  obtain ⟨W3, hW3⟩ : ∃ W3, W3 = w2.alloc (.cells #[.slice P1 (rl1 r).length d1, .slice P2 (rl2 r).length d2, .slice P3 (rl3 r).length d3] 25) := ⟨_, rfl⟩
  have hb3 : Below w2.heap.size w2 W3 := by rw [hW3]; exact below_new _
  have B3 : Hid (Below w.heap.size w W3) := below_next B2.out B2.out.size hb3
  have X1 : Hid (LBox W3 w2.heap.size 25 P1 (rl1 r).length d1 P2 (rl2 r).length d2 P3 (rl3 r).length d3) := by rw [hW3]; exact heap_alloc_new _ _
  have S1 := Lib.hid (s1.below hb3)
  have S2 := Lib.hid (s2.below hb3)
  have S3 := Lib.hid (s3.below hb3)
  have key := readList08_any W3 (H.out.below B3.out) HB.out
  rw [← HR.out] at key
  obtain ⟨g1, hg1⟩ : ∃ g, g = w2.heap.size := ⟨_, rfl⟩
  rw [← hg1] at X1
  clear s1 s2 s3 hb3
  go_wp2_with fail
  rw [← hW3, ← hg1]
  clear hW3 hg1
  refine key.mono ?_
  clear key
  rintro e w4 ⟨hb4, Q1, e1, Q2, e2, Q3, e3, rfl, t1, t2, t3⟩
  have B4 : Hid (Below w.heap.size w w4) := below_next B3.out B3.out.size hb4
  obtain ⟨W5, hW5⟩ : ∃ W5, W5 = w4.alloc (.cells #[.slice Q1 (rl1 r).length e1, .slice Q2 (rl2 r).length e2, .slice Q3 (rl3 r).length e3] 29) := ⟨_, rfl⟩
  have hb5 : Below w4.heap.size w4 W5 := by rw [hW5]; exact below_new _
  have hb45 : Below W3.heap.size W3 W5 := below_next hb4 hb4.size hb5
  have B5 : Hid (Below w.heap.size w W5) := below_next B4.out B4.out.size hb5
  have X2 : Hid (LBox W5 g1 25 P1 (rl1 r).length d1 P2 (rl2 r).length d2 P3 (rl3 r).length d3) := X1.out.below hb45
  have Y2 : Hid (LBox W5 w4.heap.size 29 Q1 (rl1 r).length e1 Q2 (rl2 r).length e2 Q3 (rl3 r).length e3) := by rw [hW5]; exact heap_alloc_new _ _
  have S4 := Lib.hid (S1.out.below hb45)
  have S5 := Lib.hid (S2.out.below hb45)
  have S6 := Lib.hid (S3.out.below hb45)
  have T1 := Lib.hid (t1.below hb5)
  have T2 := Lib.hid (t2.below hb5)
  have T3 := Lib.hid (t3.below hb5)
  obtain ⟨g2, hg2⟩ : ∃ g, g = w4.heap.size := ⟨_, rfl⟩
  rw [← hg2] at Y2
  have HE : Hid (OwnI (W5.alloc (.cells #[] 5)) W5.heap.size .u8 (.slice (some ⟨g2 + 1, 0, none⟩) 0 0) []) := by
    have e : g2 + 1 = W5.heap.size := by rw [hW5, hg2]; simp
    rw [e]
    exact OwnI.empty (Nat.le_refl _) sp_u8
  clear hb4 hb5 hb45 t1 t2 t3 X1 S1 S2 S3
  go_wp2_with (at_builtin; (try rw [← hW5]); (try rw [← hg2]); clear hW5 hg2; refine wp_app_u8 (xs := []) (ys := xs) rfl _ _ rfl rfl rfl HE.out ?_ HL.out ?_ ?_ ?_)
  · exact ((H.out.below B5.out).below (below_new _)).cell
  · simp
  · simp; omega
  intro v6 w6 hv6 hg6 hb6
  try simp only [List.nil_append] at hv6
  have hb6' : Below W5.heap.size W5 w6 := ((Below.refl _ _).alloc (Nat.le_refl _) _).trans hb6
  have B6 : Hid (Below w.heap.size w w6) := below_next B5.out B5.out.size hb6'
  obtain ⟨A6, c6, rfl⟩ := hv6.slice
  have key := readRetry8_any w6 (hv6.rds (B' := 0)) HB.out
  rw [← HRR.out] at key
  clear hv6 hg6 hb6
  go_wp2_with fail
  refine key.mono ?_
  clear key
  rintro e w7 ⟨hb7, U1, i1, U2, i2, rfl, u1, u2⟩
  have B7 : Hid (Below w.heap.size w w7) := below_next B6.out B6.out.size hb7
  have hb57 : Below W5.heap.size W5 w7 := below_next hb6' hb6'.size hb7
  obtain ⟨W8, hW8⟩ : ∃ W8, W8 = w7.alloc (.cells #[.int .i64 (rr.getD rt0).v, .slice U1 (rr.getD rt0).tn.length i1, .slice U2 (rr.getD rt0).fn.length i2, .int .i64 (rr.getD rt0).tok, .int .i64 (rr.getD rt0).tag] 34) := ⟨_, rfl⟩
  have hb8 : Below w7.heap.size w7 W8 := by rw [hW8]; exact below_new _
  have hb58 : Below W5.heap.size W5 W8 := below_next hb57 hb57.size hb8
  have B8 : Hid (Below w.heap.size w W8) := below_next B7.out B7.out.size hb8
  have X8 : Hid (LBox W8 g1 25 P1 (rl1 r).length d1 P2 (rl2 r).length d2 P3 (rl3 r).length d3) := X2.out.below hb58
  have Y8 : Hid (LBox W8 g2 29 Q1 (rl1 r).length e1 Q2 (rl2 r).length e2 Q3 (rl3 r).length e3) := Y2.out.below hb58
  have Z8 : Hid (RBox W8 w7.heap.size 34 (rr.getD rt0).v U1 (rr.getD rt0).tn.length i1 U2 (rr.getD rt0).fn.length i2 (rr.getD rt0).tok (rr.getD rt0).tag) := by rw [hW8]; exact heap_alloc_new _ _
  have S7 := Lib.hid (S4.out.below hb58)
  have S8 := Lib.hid (S5.out.below hb58)
  have S9 := Lib.hid (S6.out.below hb58)
  have T7 := Lib.hid (T1.out.below hb58)
  have T8 := Lib.hid (T2.out.below hb58)
  have T9 := Lib.hid (T3.out.below hb58)
  have U8 := Lib.hid (u1.below hb8)
  have U9 := Lib.hid (u2.below hb8)
  have key := readRetry08_any W8 (H.out.below B8.out) HB.out
  rw [← HRR.out] at key
  obtain ⟨g3, hg3⟩ : ∃ g, g = w7.heap.size := ⟨_, rfl⟩
  rw [← hg3] at Z8
  clear u1 u2 hb8 hb58 hb57 hb7 hb6' X2 Y2 S4 S5 S6 T1 T2 T3
  go_wp2_with fail
  rw [← hW8, ← hg3]
  clear hW8 hg3
  refine key.mono ?_
  clear key
  rintro e w9 ⟨hb9, V1, j1, V2, j2, rfl, v1, v2⟩
  have B9 : Hid (Below w.heap.size w w9) := below_next B8.out B8.out.size hb9
  obtain ⟨W10, hW10⟩ : ∃ W10, W10 = w9.alloc (.cells #[.int .i64 (rr.getD rt0).v, .slice V1 (rr.getD rt0).tn.length j1, .slice V2 (rr.getD rt0).fn.length j2, .int .i64 (rr.getD rt0).tok, .int .i64 (rr.getD rt0).tag] 38) := ⟨_, rfl⟩
  have hb10 : Below w9.heap.size w9 W10 := by rw [hW10]; exact below_new _
  have hb810 : Below W8.heap.size W8 W10 := below_next hb9 hb9.size hb10
  have B10 : Hid (Below w.heap.size w W10) := below_next B9.out B9.out.size hb10
  have X10 : Hid (LBox W10 g1 25 P1 (rl1 r).length d1 P2 (rl2 r).length d2 P3 (rl3 r).length d3) := X8.out.below hb810
  have Y10 : Hid (LBox W10 g2 29 Q1 (rl1 r).length e1 Q2 (rl2 r).length e2 Q3 (rl3 r).length e3) := Y8.out.below hb810
  have Z10 : Hid (RBox W10 g3 34 (rr.getD rt0).v U1 (rr.getD rt0).tn.length i1 U2 (rr.getD rt0).fn.length i2 (rr.getD rt0).tok (rr.getD rt0).tag) := Z8.out.below hb810
  have R10 : Hid (RBox W10 w9.heap.size 38 (rr.getD rt0).v V1 (rr.getD rt0).tn.length j1 V2 (rr.getD rt0).fn.length j2 (rr.getD rt0).tok (rr.getD rt0).tag) := by rw [hW10]; exact heap_alloc_new _ _
  have UA := Lib.hid (U8.out.below hb810)
  have UB := Lib.hid (U9.out.below hb810)
  have VA := Lib.hid (v1.below hb10)
  have VB := Lib.hid (v2.below hb10)
  have key := listed_yes P1 P2 P3 Q1 Q2 Q3 _ _ _ _ _ _ d1 d2 d3 e1 e2 e3 (rl1 r) (rl2 r) (rl3 r) W10 (S7.out.below hb810) (S8.out.below hb810) (S9.out.below hb810) (T7.out.below hb810) (T8.out.below hb810) (T9.out.below hb810)
  obtain ⟨g4, hg4⟩ : ∃ g, g = w9.heap.size := ⟨_, rfl⟩
  rw [← hg4] at R10
  obtain ⟨x0, x1, x2⟩ := X10.out.cells
  obtain ⟨y0, y1, y2⟩ := Y10.out.cells
  clear v1 v2 hb9 hb10 hb810 X8 Y8 Z8 S7 S8 S9 T7 T8 T9 U8 U9
  obtain ⟨b1, hb1⟩ : ∃ b, b = r.isSome := ⟨_, rfl⟩
  obtain ⟨b2, hb2⟩ : ∃ b, b = rr.isSome := ⟨_, rfl⟩
  rw [← hb1, ← hb2]
  clear hb1 hb2
  have B11 : Hid (∀ w', Below W10.heap.size W10 w' → Below w.heap.size w w' ∧ Hid (RBox w' g3 34 (rr.getD rt0).v U1 (rr.getD rt0).tn.length i1 U2 (rr.getD rt0).fn.length i2 (rr.getD rt0).tok (rr.getD rt0).tag) ∧ Hid (RBox w' g4 38 (rr.getD rt0).v V1 (rr.getD rt0).tn.length j1 V2 (rr.getD rt0).fn.length j2 (rr.getD rt0).tok (rr.getD rt0).tag) ∧ Calls Try.prog 11 #[.agg #[.int .i64 (rr.getD rt0).v, .slice U1 (rr.getD rt0).tn.length i1, .slice U2 (rr.getD rt0).fn.length i2, .int .i64 (rr.getD rt0).tok, .int .i64 (rr.getD rt0).tag], .agg #[.int .i64 (rr.getD rt0).v, .slice V1 (rr.getD rt0).tn.length j1, .slice V2 (rr.getD rt0).fn.length j2, .int .i64 (rr.getD rt0).tok, .int .i64 (rr.getD rt0).tag]] w' fun e w2 => e = .returned (.bool true) ∧ Below w'.heap.size w' w2) := by
    intro w' hb'
    exact ⟨below_next B10.out B10.out.size hb', Z10.out.below hb', R10.out.below hb', retried_yes _ _ _ _ _ _ U1 U2 V1 V2 _ _ _ _ i1 i2 j1 j2 _ _ _ _ w' (UA.out.below hb') (UB.out.below hb') (VA.out.below hb') (VB.out.below hb') ⟨rfl, rfl, rfl, rfl, rfl⟩⟩
  clear X10 Y10 Z10 R10 UA UB VA VB
  subst hW10 hg4
  cases b1 <;> cases b2 <;> simp only [errOf, cond_true, cond_false]
  all_goals
    go_wp2_with fail
    refine key.mono ?_
    clear key
    rintro e w11 ⟨rfl, hb11⟩
    obtain ⟨D1, D2, D3, key⟩ := B11.out w11 hb11
    have HD1 := Lib.hid D1
    obtain ⟨x0, x1, x2, x3, x4⟩ := D2.out.cells
    obtain ⟨y0, y1, y2, y3, y4⟩ := D3.out.cells
    clear B11 hb11 D1 D2 D3
    go_wp2_with fail
    refine key.mono ?_
    clear key
    rintro e w12 ⟨rfl, hb12⟩
    have HD2 := Lib.hid (below_next HD1.out HD1.out.size hb12)
    clear hb12
    go_wp2_with fail
    refine (awake08_any w12).mono ?_
    rintro e w13 ⟨rfl, hb13⟩
    have HD3 := Lib.hid (below_next HD2.out HD2.out.size hb13)
    clear hb13
    go_wp2_with fail
    go_ret
    exact ⟨rfl, HD3.out⟩
theorem specialReads_row {A : Option Addr} {n c : Nat} (w : World) (h : ∃ xs, Rds w.heap.size w .u8 A n c xs ∧ Byt xs) : Calls Try.prog 3 #[.slice A n c] w fun e w' => e = .returned (.bool true) ∧ Below w.heap.size w w' := by
  obtain ⟨xs, h1, h2⟩ := h
  exact specialReads_walk w A n c xs h1 h2
end Go.Proofs.Ytomopjpfdmpgpaa
