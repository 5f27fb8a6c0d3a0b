/- Own texts, one behind the other. Each bears its own remark. -/
import Derived.Test.YtmaedahleenlgaaDoorToken5
import Derived.Test.YtmaedahleenlgaaDoorLaw17
/- The reference and the small functions of layer 16's laws. No condition but the table of bit places. -/
set_option linter.unusedVariables false
set_option linter.unusedSimpArgs false
namespace Go.Proofs.YtmaedahleenlgaaDoor
open Go Go.RowKit Go.WideMaps

set_option maxHeartbeats 3200000 in
set_option maxRecDepth 100000 in
theorem r16text_any {B : Nat} (l : Bool) (a t : Int) (nm : List Int) (A : Option Addr) (n c : Nat) (w : World) (h : Rds B w .u8 A n c nm) (hn : n ≤ 1000) :
    Calls Tryd.prog 13 #[.agg #[.bool l, .int .i64 a, .int .i64 t, .slice A n c]] w (BytesPost (tokB ⟨l, a, t, nm⟩) w) := by
  obtain ⟨W, hW⟩ : ∃ W, W = w.alloc (.cells #[.bool l, .int .i64 a, .int .i64 t, .slice A n c] 24) := ⟨_, rfl⟩
  have HBW : Hid (Below w.heap.size w W) := by rw [hW]; exact below_new _
  have HSW : Hid (W.heap.size = w.heap.size + 1) := by rw [hW]; show _ = _; simp
  have x0 : W.cell? ⟨w.heap.size, 0, none⟩ = some (.bool l) := by rw [hW]; simp [go_sem]
  have x1 : W.cell? ⟨w.heap.size, 1, none⟩ = some (.int .i64 a) := by rw [hW]; simp [go_sem]
  have x2 : W.cell? ⟨w.heap.size, 2, none⟩ = some (.int .i64 t) := by rw [hW]; simp [go_sem]
  have x3 : W.cell? ⟨w.heap.size, 3, none⟩ = some (.slice A n c) := by rw [hW]; simp [go_sem]
  have hlt : w.heap.size < W.heap.size := by have := HSW.out; omega
  have HR := Lib.hid (h.below HBW.out)
  have HL := Lib.hid h.len
  clear h
  have key := rsize_any a W
  go_enter Tryd.func13, Tryd.ntmps13
  go_wp2_with fail
  rw [← hW]
  clear hW
  refine key.mono ?_
  clear key
  rintro e w1 ⟨rfl, rfl⟩
  by_cases ha : sizeV a = 0
  · have HN := Lib.hid (tokB_no (x := ⟨l, a, t, nm⟩) (.inl ha))
    have hvb : (((sizeV a : Nat) : Int) == 0) = true := by rw [ha]; rfl
    clear ha
    go_wp2_with fail
    go_ret
    rw [HN.out]
    exact BytesPost.nil HBW.out
  have hvb : (((sizeV a : Nat) : Int) == 0) = false := by rw [beq_eq_false_iff_ne]; omega
  have HA := Lib.hid ha
  clear ha
  have key := rsize_any t W
  go_wp2_with fail
  refine key.mono ?_
  clear key
  rintro e w1 ⟨rfl, rfl⟩
  by_cases ht : sizeV t = 0
  · have HN := Lib.hid (tokB_no (x := ⟨l, a, t, nm⟩) (.inr (.inl ht)))
    have htb : (((sizeV t : Nat) : Int) == 0) = true := by rw [ht]; rfl
    clear ht
    go_wp2_with fail
    go_ret
    rw [HN.out]
    exact BytesPost.nil HBW.out
  have htb : (((sizeV t : Nat) : Int) == 0) = false := by rw [beq_eq_false_iff_ne]; omega
  have HT := Lib.hid ht
  clear ht
  by_cases hl : 20 < n
  · have HN := Lib.hid (tokB_no (x := ⟨l, a, t, nm⟩) (.inr (.inr (by have := HL.out; show 20 < nm.length; omega))))
    go_wp2_with fail
    go_ret
    rw [HN.out]
    exact BytesPost.nil HBW.out
  have HN : Hid (tokB ⟨l, a, t, nm⟩ = markB l :: (varB a ++ varB t ++ giveB nm)) := tokB_yes (by rintro (h | h | h); exact HA.out h; exact HT.out h; have := HL.out; exact hl (by show 20 < n; have h' : 20 < nm.length := h; omega))
  obtain ⟨V, hV⟩ : ∃ V, V = W.alloc (.cells #[.int .u8 (markB l)] 5) := ⟨_, rfl⟩
  have HBV : Hid (Below W.heap.size W V) := by rw [hV]; exact below_new _
  have HO : Hid (OwnI V W.heap.size .u8 (.slice (some ⟨W.heap.size, 0, none⟩) 1 1) [markB l]) := by
    rw [hV]; exact OwnI.fresh (xs := [markB l]) (t := 5) (Nat.le_refl _) sp_u8 (by simp)
  have m1 := Lib.hid (varB_len a)
  have m2 := Lib.hid (varB_len t)
  have s1 := Lib.hid (sizeV_le a)
  have s2 := Lib.hid (sizeV_le t)
  have x2k := Lib.hid x2
  have x3k := Lib.hid x3
  have key := rbytes_any a V
  have y1 := later_cell HBV.out x1 hlt
  have y2 := later_cell HBV.out x2 hlt
  have y3 := later_cell HBV.out x3 hlt
  have lV : w.heap.size < V.heap.size := by have := HBV.out.size; omega
  cases l with
  | true =>
    go_wp2_with fail
    rw [show W.alloc (.cells #[.int .u8 1] 5) = V from hV.symm]
    clear hV x0 x1 x2 x3
    refine key.mono ?_
    clear key
    rintro e w1 ⟨v1, rfl, ho, hb⟩
    obtain ⟨A1, c1, rfl⟩ := ho.slice
    have HR1 := Lib.hid (ho.rds (B' := 0)).cell
    have HO1 := Lib.hid (HO.out.below hb)
    have HB1 := Lib.hid (HBV.out.trans (hb.mono HBV.out.size))
    clear ho hb
    go_wp2_with (at_builtin; refine wp_app_u8 rfl _ _ rfl rfl rfl HO1.out HR1.out rfl HB1.out.size (by have := m1.out; have := s1.out; simp; omega) ?_)
    intro v2 w2 ho hg hb
    obtain ⟨ys, hys⟩ : ∃ ys, ys = markB true :: varB a := ⟨_, rfl⟩
    rw [← hys] at ho
    have HYS := Lib.hid hys
    have LYS : Hid (ys.length = 1 + sizeV a) := by show _ = _; rw [hys, List.length_cons, m1.out]; omega
    obtain ⟨A2, c2, rfl⟩ := ho.slice
    have HO2 := Lib.hid ho
    have HB2 := Lib.hid (HB1.out.trans hb)
    have z2 := later_cell HB2.out x2k.out hlt
    have z3 := later_cell HB2.out x3k.out hlt
    have l2 : w.heap.size < w2.heap.size := by have := HB2.out.size; omega
    have key := rbytes_any t w2
    clear ho hg hb hys HB1 HO1 HR1 y1 y2 y3 lV
    go_wp2_with fail
    refine key.mono ?_
    clear key
    rintro e w3 ⟨v3, rfl, ho, hb⟩
    obtain ⟨A3, c3, rfl⟩ := ho.slice
    have HR3 := Lib.hid (ho.rds (B' := 0)).cell
    have HO3 := Lib.hid (HO2.out.below hb)
    have HB3 := Lib.hid (HB2.out.trans (hb.mono HB2.out.size))
    clear ho hb
    go_wp2_with (at_builtin; refine wp_app_u8 rfl _ _ rfl rfl rfl HO3.out HR3.out rfl HB3.out.size (by have := m2.out; have := s2.out; have := LYS.out; have := s1.out; omega) ?_)
    intro v4 w4 ho hg hb
    obtain ⟨zs, hzs⟩ : ∃ zs, zs = ys ++ varB t := ⟨_, rfl⟩
    rw [← hzs] at ho
    have HZS := Lib.hid hzs
    have LZS : Hid (zs.length = 1 + sizeV a + sizeV t) := by show _ = _; rw [hzs, List.length_append, m2.out, LYS.out]
    obtain ⟨A4, c4, rfl⟩ := ho.slice
    have HO4 := Lib.hid ho
    have HB4 := Lib.hid (HB3.out.trans hb)
    have q3 := later_cell HB4.out x3k.out hlt
    have l4 : w.heap.size < w4.heap.size := by have := HB4.out.size; omega
    have key := rgive_any A n c nm w4 (HR.out.below HB4.out) (by omega)
    clear ho hg hb hzs HB3 HO3 HR3 z2 z3 l2 HB2 HO2
    go_wp2_with fail
    refine key.mono ?_
    clear key
    rintro e w5 ⟨v5, rfl, ho, hb⟩
    obtain ⟨A5, c5, rfl⟩ := ho.slice
    have HR5 := Lib.hid (ho.rds (B' := 0)).cell
    have HO5 := Lib.hid (HO4.out.below hb)
    have HB5 := Lib.hid (HB4.out.trans (hb.mono HB4.out.size))
    have LG : Hid ((giveB nm).length ≤ 8 + n) := by show _ ≤ _; have := HL.out; have := sizeV_le nm.length; simp [giveB, varB_len]; omega
    clear ho hb q3 l4 HB4 HO4
    go_wp2_with (at_builtin; refine wp_app_u8 rfl _ _ rfl rfl rfl HO5.out HR5.out rfl HB5.out.size (by have := LG.out; have := LZS.out; have := s1.out; have := s2.out; omega) ?_)
    intro v6 w6 ho hg hb
    have HO6 := Lib.hid ho
    have HB6 := Lib.hid (HB5.out.trans hb)
    clear ho hg hb HB5 HO5 HR5
    go_wp2_with fail
    go_ret
    refine ⟨_, rfl, (HO6.out.mono (Nat.le_of_lt hlt)).eq ?_, HBW.out.trans (HB6.out.mono (Nat.le_of_lt hlt))⟩
    rw [HN.out, HZS.out, HYS.out]
    simp
  | false =>
    go_wp2_with fail
    rw [show W.alloc (.cells #[.int .u8 0] 5) = V from hV.symm]
    clear hV x0 x1 x2 x3
    refine key.mono ?_
    clear key
    rintro e w1 ⟨v1, rfl, ho, hb⟩
    obtain ⟨A1, c1, rfl⟩ := ho.slice
    have HR1 := Lib.hid (ho.rds (B' := 0)).cell
    have HO1 := Lib.hid (HO.out.below hb)
    have HB1 := Lib.hid (HBV.out.trans (hb.mono HBV.out.size))
    clear ho hb
    go_wp2_with (at_builtin; refine wp_app_u8 rfl _ _ rfl rfl rfl HO1.out HR1.out rfl HB1.out.size (by have := m1.out; have := s1.out; simp; omega) ?_)
    intro v2 w2 ho hg hb
    obtain ⟨ys, hys⟩ : ∃ ys, ys = markB false :: varB a := ⟨_, rfl⟩
    rw [← hys] at ho
    have HYS := Lib.hid hys
    have LYS : Hid (ys.length = 1 + sizeV a) := by show _ = _; rw [hys, List.length_cons, m1.out]; omega
    obtain ⟨A2, c2, rfl⟩ := ho.slice
    have HO2 := Lib.hid ho
    have HB2 := Lib.hid (HB1.out.trans hb)
    have z2 := later_cell HB2.out x2k.out hlt
    have z3 := later_cell HB2.out x3k.out hlt
    have l2 : w.heap.size < w2.heap.size := by have := HB2.out.size; omega
    have key := rbytes_any t w2
    clear ho hg hb hys HB1 HO1 HR1 y1 y2 y3 lV
    go_wp2_with fail
    refine key.mono ?_
    clear key
    rintro e w3 ⟨v3, rfl, ho, hb⟩
    obtain ⟨A3, c3, rfl⟩ := ho.slice
    have HR3 := Lib.hid (ho.rds (B' := 0)).cell
    have HO3 := Lib.hid (HO2.out.below hb)
    have HB3 := Lib.hid (HB2.out.trans (hb.mono HB2.out.size))
    clear ho hb
    go_wp2_with (at_builtin; refine wp_app_u8 rfl _ _ rfl rfl rfl HO3.out HR3.out rfl HB3.out.size (by have := m2.out; have := s2.out; have := LYS.out; have := s1.out; omega) ?_)
    intro v4 w4 ho hg hb
    obtain ⟨zs, hzs⟩ : ∃ zs, zs = ys ++ varB t := ⟨_, rfl⟩
    rw [← hzs] at ho
    have HZS := Lib.hid hzs
    have LZS : Hid (zs.length = 1 + sizeV a + sizeV t) := by show _ = _; rw [hzs, List.length_append, m2.out, LYS.out]
    obtain ⟨A4, c4, rfl⟩ := ho.slice
    have HO4 := Lib.hid ho
    have HB4 := Lib.hid (HB3.out.trans hb)
    have q3 := later_cell HB4.out x3k.out hlt
    have l4 : w.heap.size < w4.heap.size := by have := HB4.out.size; omega
    have key := rgive_any A n c nm w4 (HR.out.below HB4.out) (by omega)
    clear ho hg hb hzs HB3 HO3 HR3 z2 z3 l2 HB2 HO2
    go_wp2_with fail
    refine key.mono ?_
    clear key
    rintro e w5 ⟨v5, rfl, ho, hb⟩
    obtain ⟨A5, c5, rfl⟩ := ho.slice
    have HR5 := Lib.hid (ho.rds (B' := 0)).cell
    have HO5 := Lib.hid (HO4.out.below hb)
    have HB5 := Lib.hid (HB4.out.trans (hb.mono HB4.out.size))
    have LG : Hid ((giveB nm).length ≤ 8 + n) := by show _ ≤ _; have := HL.out; have := sizeV_le nm.length; simp [giveB, varB_len]; omega
    clear ho hb q3 l4 HB4 HO4
    go_wp2_with (at_builtin; refine wp_app_u8 rfl _ _ rfl rfl rfl HO5.out HR5.out rfl HB5.out.size (by have := LG.out; have := LZS.out; have := s1.out; have := s2.out; omega) ?_)
    intro v6 w6 ho hg hb
    have HO6 := Lib.hid ho
    have HB6 := Lib.hid (HB5.out.trans hb)
    clear ho hg hb HB5 HO5 HR5
    go_wp2_with fail
    go_ret
    refine ⟨_, rfl, (HO6.out.mono (Nat.le_of_lt hlt)).eq ?_, HBW.out.trans (HB6.out.mono (Nat.le_of_lt hlt))⟩
    rw [HN.out, HZS.out, HYS.out]
    simp

theorem str_eq_dec {xs ys : List Int} (hx : Byt xs) (hy : Byt ys) : (((strOfNums xs).toList == (strOfNums ys).toList) : Bool) = decide (xs = ys) := by
  by_cases h : xs = ys
  · subst h
    simp
  · rw [decide_eq_false h, beq_eq_false_iff_ne]
    intro k
    apply h
    refine strOfNums_inj hx hy ?_
    rw [ByteArray.toList_eq, ByteArray.toList_eq] at k
    have := Array.toList_inj.1 k
    cases hs : strOfNums xs with
    | mk d =>
      cases ht : strOfNums ys with
      | mk d' => rw [hs, ht] at this; simp only at this; rw [this]
set_option maxHeartbeats 3200000 in
set_option maxRecDepth 100000 in
theorem told16_any {B B' : Nat} (x y : Tok) (A A' : Option Addr) (c c' : Nat) (w : World) (hx : Rds B w .u8 A x.name.length c x.name) (hy : Rds B' w .u8 A' y.name.length c' y.name) (bx : Byt x.name) (b_y : Byt y.name) :
    Calls Tryd.prog 20 #[TokV x A c, TokV y A' c'] w fun e w' => e = .returned (.bool (decide (x = y))) ∧ Below w.heap.size w w' := by
  obtain ⟨xl, xa, xt, xn⟩ := x
  obtain ⟨yl, ya, yt, yn⟩ := y
  obtain ⟨r, hr⟩ : ∃ r, r = decide ((⟨xl, xa, xt, xn⟩ : Tok) = ⟨yl, ya, yt, yn⟩) := ⟨_, rfl⟩
  have HR := Lib.hid hr
  rw [← hr]
  clear hr
  simp only [TokV] at hx hy bx b_y ⊢
  obtain ⟨W, hW⟩ : ∃ W, W = (w.alloc (.cells #[.bool xl, .int .i64 xa, .int .i64 xt, .slice A xn.length c] 32)).alloc (.cells #[.bool yl, .int .i64 ya, .int .i64 yt, .slice A' yn.length c'] 24) := ⟨_, rfl⟩
  have HB : Hid (Below w.heap.size w W) := by rw [hW]; exact (below_new _).alloc (by simp) _
  have hc1 := run_bytes_string (hx.below HB.out)
  have hc2 := run_bytes_string (hy.below HB.out)
  rw [hW] at hc1 hc2 HB
  have hne : ∀ {b : Bool}, b = false → r = b → r = false := fun h k => k.trans h
  clear hW hx hy hne
  have hse := str_eq_dec bx b_y
  obtain ⟨s1, hs1⟩ : ∃ s, s = strOfNums xn := ⟨_, rfl⟩
  obtain ⟨s2, hs2⟩ : ∃ s, s = strOfNums yn := ⟨_, rfl⟩
  rw [← hs1, ← hs2] at hse
  rw [← hs1] at hc1
  rw [← hs2] at hc2
  have HSE := Lib.hid hse
  clear hse hs1 hs2 bx b_y
  go_enter Tryd.func20, Tryd.ntmps20
  by_cases h1 : xl = yl
  rotate_left
  · have hb : (xl == yl) = false := by simp [h1]
    have HZ : Hid (r = false) := by show _ = _; rw [HR.out, decide_eq_false_iff_not]; intro k; injection k with k1 k2 k3 k4; exact h1 k1
    clear h1 hc1 hc2
    go_wp2_with fail
    go_ret
    exact ⟨by rw [HZ.out]; rfl, HB.out⟩
  subst h1
  by_cases h2 : xa = ya
  rotate_left
  · have hb : (xa == ya) = false := by simp [h2]
    have HZ : Hid (r = false) := by show _ = _; rw [HR.out, decide_eq_false_iff_not]; intro k; injection k with k1 k2 k3 k4; exact h2 k2
    clear h2 hc1 hc2
    go_wp2_with fail
    go_ret
    exact ⟨by rw [HZ.out]; rfl, HB.out⟩
  subst h2
  by_cases h3 : xt = yt
  rotate_left
  · have hb : (xt == yt) = false := by simp [h3]
    have HZ : Hid (r = false) := by show _ = _; rw [HR.out, decide_eq_false_iff_not]; intro k; injection k with k1 k2 k3 k4; exact h3 k3
    clear h3 hc1 hc2
    go_wp2_with fail
    go_ret
    exact ⟨by rw [HZ.out]; rfl, HB.out⟩
  subst h3
  have HZ : Hid (r = (s1.toList == s2.toList)) := by show _ = _; rw [HR.out, HSE.out]; simp
  go_wp2_with fail
  go_ret
  exact ⟨by rw [HZ.out]; rfl, HB.out⟩
end Go.Proofs.YtmaedahleenlgaaDoor

/- Layer 16's laws: the reference's Read and Right, of, awake. No condition but the table of bit places. -/
set_option linter.unusedVariables false
set_option linter.unusedSimpArgs false
namespace Go.Proofs.YtmaedahleenlgaaDoor
open Go Go.RowKit Go.WideMaps

/-- Bytes do not lie in a token's block. -/
theorem Rds.ne_tok {B : Nat} {w : World} {A : Option Addr} {n c : Nat} {xs : List Int} (h : Rds B w .u8 A n c xs) {g : Nat} {l : Bool} {a t : Int} {S : Option Addr} {p q : Nat} {T : TypeId} {fr : Nat × Nat} (hg : w.heap[g]? = some (.cells #[.bool l, .int .i64 a, .int .i64 t, .slice S p q] T fr)) : ∀ b, 0 < n → A = some b → b.block ≠ g := by
  intro b hn e he
  obtain ⟨b', o, rfl, hc⟩ := h.cell.at_ (by have := h.len; omega)
  cases e
  simp only at he
  subst he
  have h0 := hc 0 (by have := h.len; omega)
  rw [cell_of_row w b' (o + 0) _ _ _ hg] at h0
  match o, h0 with
  | 0, h0 => simp at h0
  | 1, h0 => simp at h0
  | 2, h0 => simp at h0
  | 3, h0 => simp at h0
  | o + 4, h0 => simp at h0
theorem Rds.setRow {B : Nat} {w : World} {k : IntKind} {A : Option Addr} {n c : Nat} {xs : List Int} (h : Rds B w k A n c xs) {g : Nat} (cs : Array Value) (hne : ∀ a, 0 < n → A = some a → a.block ≠ g) : Rds B (w.setRow g cs) k A n c xs := by
  refine ⟨h.len, h.cap, h.max, fun j hj => ?_, fun p a e => ?_⟩
  · obtain ⟨ad, e, hc⟩ := h.cell j hj
    refine ⟨ad, e, ?_⟩
    rw [← hc]
    exact World.cell?_of_block (by rw [add_block]; exact setRow_other w g _ _ (hne ad (by have := h.len; omega) e))
  · have hk := h.safe p a e
    have hn := hne a p e
    refine ⟨by simpa using hk.1, hk.2.imp id ?_⟩
    rintro ⟨cs', t, fr, q1, q2⟩
    exact ⟨cs', t, fr, (setRow_other w g _ _ hn).trans q1, q2⟩
def RKPost (B : Nat) (r : Option Tok) (w : World) (e : Ending) (w' : World) : Prop :=
  ∃ A c, e = .returned (.tuple #[TokV (r.getD tok0) A c, .bool r.isSome]) ∧ Rds B w' .u8 A (r.getD tok0).name.length c (r.getD tok0).name ∧ Below w.heap.size w w'
theorem RKPost.no {B : Nat} {r : Option Tok} {w w' : World} (h : r = none) (hb : Below w.heap.size w w') : RKPost B r w (.returned (.tuple #[.agg #[.bool false, .int .i64 0, .int .i64 0, .slice none 0 0], .bool false])) w' := by
  subst h
  exact ⟨none, 0, rfl, Rds.nil _ _ _, hb⟩
theorem RKPost.yes {B : Nat} {r : Option Tok} {w w' : World} {l : Bool} {a t : Int} {nm : List Int} {A : Option Addr} {c : Nat} (h : r = some ⟨l, a, t, nm⟩) (ho : Rds B w' .u8 A nm.length c nm) (hb : Below w.heap.size w w') : RKPost B r w (.returned (.tuple #[.agg #[.bool l, .int .i64 a, .int .i64 t, .slice A nm.length c], .bool true])) w' := by
  subst h
  exact ⟨A, c, rfl, ho, hb⟩
theorem tb16_size : (Tryd.prog.info? 24).map (·.size) = some 4 := by kernel_rfl
set_option maxHeartbeats 6400000 in
set_option maxRecDepth 100000 in
theorem r16read_any {B : Nat} (A : Option Addr) (n c : Nat) (xs : List Int) (w : World) (h : Rds B w .u8 A n c xs) (hb : Byt xs) (hn : n ≤ 1000000) :
    Calls Tryd.prog 23 #[.slice A n c] w (RKPost B (readK xs) w) := by
  have HR := Lib.hid h
  have HL := Lib.hid h.len
  have HY := Lib.hid hb
  obtain ⟨W, hW⟩ : ∃ W, W = w.alloc (.cells #[.bool false, .int .i64 0, .int .i64 0, .slice none 0 0] 24) := ⟨_, rfl⟩
  have HBW : Hid (Below w.heap.size w W) := by rw [hW]; exact below_new _
  have HGW : Hid (W.heap[w.heap.size]? = some (.cells #[.bool false, .int .i64 0, .int .i64 0, .slice none 0 0] 24 (0, 0))) := by rw [hW]; exact heap_alloc_new w _
  have HRW := Lib.hid (HR.out.below HBW.out)
  have no : ¬ kdOk xs → Hid (readK xs = none) := fun h => readK_no h
  clear h hb
  by_cases h0 : n = 0
  · subst h0
    have HN := no fun k => by have := k.1.1; have := HL.out; omega
    clear no hW
    go_enter Tryd.func23, Tryd.ntmps23
    go_wp2_with fail
    go_returns
    exact RKPost.no HN.out (below_new _)
  obtain ⟨bA, oA, rfl, hcx⟩ := RdI.at_ HR.out.cell (by have := HL.out; omega)
  obtain ⟨y, hy⟩ : ∃ y, y = nth xs 0 := ⟨_, rfl⟩
  have g0 := hcx 0 (by have := HL.out; omega)
  rw [← hy, Nat.add_zero] at g0
  have hy0 : 0 ≤ y ∧ y ≤ 255 := by rw [hy]; exact HY.out _ (nth_mem (by have := HL.out; omega))
  have lA : bA < w.heap.size := (HR.out.safe (by omega) _ rfl).1
  have g1 := later_cell HBW.out g0 lA
  have HYn := Lib.hid hy
  have hnb : ((n : Int) == 0) = false := by rw [beq_eq_false_iff_ne]; omega
  have hni : (0 : Int) < n := by omega
  clear hcx hy
  by_cases hy1 : 1 < y
  · have HN := no fun k => by have h1 := k.1.2; rw [← HYn.out] at h1; omega
    clear no hW g1
    go_enter Tryd.func23, Tryd.ntmps23
    go_wp2_with fail
    go_returns
    exact RKPost.no HN.out (below_new _)
  go_enter Tryd.func23, Tryd.ntmps23
  rw [hW] at HRW
  go_wp2_with ((with_reducible show wpList _ _ _ (Oper.mk _ (Op.slice _ _ _ _ _) _ _ _ _ :: _) _ _); refine wp_cut rfl _ _ rfl rfl rfl 1 rfl (by omega) HRW.out ?_; intro hr2; have HR2 := Lib.hid hr2; clear hr2)
  rw [← hW] at HR2 HRW ⊢
  clear hW
  have key := rread_any _ _ _ _ _ HR2.out (byt_drop HY.out 1)
  refine key.mono ?_
  clear key
  rintro e w1 ⟨rfl, rfl⟩
  obtain ⟨a1, s1, e1, k1⟩ : ∃ a s e, kd1 xs = (a, s, e) := ⟨_, _, _, rfl⟩
  have hs1 := readV_size (xs := xs.drop 1)
  rw [show readV (xs.drop 1) = (a1, s1, e1) from k1] at hs1 ⊢
  simp only [List.length_drop] at hs1 ⊢
  have K1 := Lib.hid k1
  have hs1n : s1 ≤ n - 1 := by have := HL.out; omega
  have hw1 : wrap64 (1 + (s1 : Int)) = ((1 + s1 : Nat) : Int) := by unfold wrap64; omega
  have HW1 := Lib.hid hw1
  clear hs1 k1 HR2 hw1
  by_cases he1 : e1 = 0
  rotate_left
  · have HN := no fun k => by have h := k.2.1; rw [K1.out] at h; exact he1 h
    have hb1 : (e1 != 0) = true := by simp [he1]
    clear he1 no
    go_wp2_with ((with_reducible show wpList _ _ _ (Oper.mk _ (Op.store 24 (.tmp 2) _) _ _ _ _ :: _) _ _); (refine wp_store_row rfl rfl _ _ _ rfl w.heap.size _ _ 24 rfl rfl tb16_size HGW.out rfl (by simp [Value.oneCell']) ?_))
    obtain ⟨u, hu⟩ : ∃ u, u = World.setRow W w.heap.size #[.bool false, .int .i64 0, .int .i64 0, .slice none 0 0] := ⟨_, rfl⟩
    rw [← hu]
    have hux : u.heap[w.heap.size]? = some (.cells #[.bool false, .int .i64 0, .int .i64 0, .slice none 0 0] 24 (0, 0)) := by rw [hu]; exact setRow_heap _ w.heap.size _ _ _ _ HGW.out
    have HBu : Hid (Below w.heap.size w u) := by rw [hu]; exact below_setRow HBW.out (Nat.le_refl _) _
    have z0 := cell_of_row u w.heap.size 0 _ _ _ hux
    have z1 := cell_of_row u w.heap.size 1 _ _ _ hux
    have z2 := cell_of_row u w.heap.size 2 _ _ _ hux
    have z3 := cell_of_row u w.heap.size 3 _ _ _ hux
    clear hu hux
    refine bodyPost_ret (v := .tuple #[.agg #[.bool false, .int .i64 0, .int .i64 0, .slice none 0 0], .bool false]) (by simp [results, Tryd.results23, go_sem, z0, z1, z2, z3]) rfl ?_
    exact RKPost.no HN.out HBu.out
  subst he1
  go_wp2_with ((with_reducible show wpList _ _ _ (Oper.mk _ (Op.slice _ _ _ _ _) _ _ _ _ :: _) _ _); refine wp_cut rfl _ _ rfl rfl rfl (1 + s1) (by push_cast; rfl) (by omega) HRW.out ?_; intro hr2; have HR2 := Lib.hid hr2; clear hr2)
  have key := rread_any _ _ _ _ _ HR2.out (byt_drop HY.out _)
  refine key.mono ?_
  clear key
  rintro e w1 ⟨rfl, rfl⟩
  obtain ⟨a2, s2, e2, k2⟩ : ∃ a s e, kd2 xs = (a, s, e) := ⟨_, _, _, rfl⟩
  have hs2 := readV_size (xs := xs.drop (1 + s1))
  rw [show readV (xs.drop (1 + s1)) = (a2, s2, e2) from by have h := k2; unfold kd2 at h; rw [K1.out] at h; exact h] at hs2 ⊢
  simp only [List.length_drop] at hs2 ⊢
  have K2 := Lib.hid k2
  have hs2n : 1 + s1 + s2 ≤ n := by have := HL.out; omega
  clear hs2 k2 HR2
  by_cases he2 : e2 = 0
  rotate_left
  · have HN := no fun k => by have h := k.2.2.1; rw [K2.out] at h; exact he2 h
    have hb1 : (e2 != 0) = true := by simp [he2]
    clear he2 no
    go_wp2_with ((with_reducible show wpList _ _ _ (Oper.mk _ (Op.store 24 (.tmp 2) _) _ _ _ _ :: _) _ _); (refine wp_store_row rfl rfl _ _ _ rfl w.heap.size _ _ 24 rfl rfl tb16_size HGW.out rfl (by simp [Value.oneCell']) ?_))
    obtain ⟨u, hu⟩ : ∃ u, u = World.setRow W w.heap.size #[.bool false, .int .i64 0, .int .i64 0, .slice none 0 0] := ⟨_, rfl⟩
    rw [← hu]
    have hux : u.heap[w.heap.size]? = some (.cells #[.bool false, .int .i64 0, .int .i64 0, .slice none 0 0] 24 (0, 0)) := by rw [hu]; exact setRow_heap _ w.heap.size _ _ _ _ HGW.out
    have HBu : Hid (Below w.heap.size w u) := by rw [hu]; exact below_setRow HBW.out (Nat.le_refl _) _
    have z0 := cell_of_row u w.heap.size 0 _ _ _ hux
    have z1 := cell_of_row u w.heap.size 1 _ _ _ hux
    have z2 := cell_of_row u w.heap.size 2 _ _ _ hux
    have z3 := cell_of_row u w.heap.size 3 _ _ _ hux
    clear hu hux
    refine bodyPost_ret (v := .tuple #[.agg #[.bool false, .int .i64 0, .int .i64 0, .slice none 0 0], .bool false]) (by simp [results, Tryd.results23, go_sem, z0, z1, z2, z3]) rfl ?_
    exact RKPost.no HN.out HBu.out
  subst he2
  go_wp2_with ((with_reducible show wpList _ _ _ (Oper.mk _ (Op.slice _ _ _ _ _) _ _ _ _ :: _) _ _); refine wp_cut rfl _ _ rfl rfl rfl (1 + s1 + s2) (by push_cast; rfl) hs2n HRW.out ?_; intro hr2; have HR2 := Lib.hid hr2; clear hr2)
  have key := rtake_any _ _ _ _ _ HR2.out (byt_drop HY.out _) (by omega)
  refine key.mono ?_
  clear key
  rintro e w4 ⟨A7, c7, A8, c8, rfl, ho7, ho8, hb⟩
  obtain ⟨nm, rs, e3, k3⟩ : ∃ a b e, kd3 xs = (a, b, e) := ⟨_, _, _, rfl⟩
  rw [show takeV (xs.drop (1 + s1 + s2)) = (nm, rs, e3) from by have h := k3; unfold kd3 at h; rw [K1.out, K2.out] at h; exact h] at ho7 ho8 ⊢
  simp only at ho7 ho8 ⊢
  have K3 := Lib.hid k3
  have HO7 := Lib.hid ho7
  have HBW4 := Lib.hid (below_next HBW.out HBW.out.size hb)
  have HGW4 : Hid (w4.heap[w.heap.size]? = some (.cells #[.bool false, .int .i64 0, .int .i64 0, .slice none 0 0] 24 (0, 0))) := (hb.block _ (lt_of_get HGW.out)).trans HGW.out
  have g4 := later_cell hb g1 (by have := HBW.out.size; show bA < _; omega)
  clear HBW HGW
  have HBW := HBW4
  have HGW := HGW4
  clear HBW4 HGW4 ho7 ho8 hb k3 HR2 g1
  by_cases he3 : e3 = 0
  rotate_left
  · have HN := no fun k => by have h := k.2.2.2.1; rw [K3.out] at h; exact he3 h
    have hb1 : (e3 != 0) = true := by simp [he3]
    clear he3 no
    go_wp2_with ((with_reducible show wpList _ _ _ (Oper.mk _ (Op.store 24 (.tmp 2) _) _ _ _ _ :: _) _ _); (refine wp_store_row rfl rfl _ _ _ rfl w.heap.size _ _ 24 rfl rfl tb16_size HGW.out rfl (by simp [Value.oneCell']) ?_))
    obtain ⟨u, hu⟩ : ∃ u, u = World.setRow w4 w.heap.size #[.bool false, .int .i64 0, .int .i64 0, .slice none 0 0] := ⟨_, rfl⟩
    rw [← hu]
    have hux : u.heap[w.heap.size]? = some (.cells #[.bool false, .int .i64 0, .int .i64 0, .slice none 0 0] 24 (0, 0)) := by rw [hu]; exact setRow_heap _ w.heap.size _ _ _ _ HGW.out
    have HBu : Hid (Below w.heap.size w u) := by rw [hu]; exact below_setRow HBW.out (Nat.le_refl _) _
    have z0 := cell_of_row u w.heap.size 0 _ _ _ hux
    have z1 := cell_of_row u w.heap.size 1 _ _ _ hux
    have z2 := cell_of_row u w.heap.size 2 _ _ _ hux
    have z3 := cell_of_row u w.heap.size 3 _ _ _ hux
    clear hu hux
    refine bodyPost_ret (v := .tuple #[.agg #[.bool false, .int .i64 0, .int .i64 0, .slice none 0 0], .bool false]) (by simp [results, Tryd.results23, go_sem, z0, z1, z2, z3]) rfl ?_
    exact RKPost.no HN.out HBu.out
  subst he3
  by_cases hrs : rs.length = 0
  rotate_left
  · have HN := no fun k => by have h := k.2.2.2.2.1; rw [K3.out] at h; exact hrs h
    have hb1 : 0 < (rs.length : Int) := by omega
    have hb2 : 0 < rs.length := by omega
    clear hrs no
    go_wp2_with ((with_reducible show wpList _ _ _ (Oper.mk _ (Op.store 24 (.tmp 2) _) _ _ _ _ :: _) _ _); (refine wp_store_row rfl rfl _ _ _ rfl w.heap.size _ _ 24 rfl rfl tb16_size HGW.out rfl (by simp [Value.oneCell']) ?_))
    obtain ⟨u, hu⟩ : ∃ u, u = World.setRow w4 w.heap.size #[.bool false, .int .i64 0, .int .i64 0, .slice none 0 0] := ⟨_, rfl⟩
    rw [← hu]
    have hux : u.heap[w.heap.size]? = some (.cells #[.bool false, .int .i64 0, .int .i64 0, .slice none 0 0] 24 (0, 0)) := by rw [hu]; exact setRow_heap _ w.heap.size _ _ _ _ HGW.out
    have HBu : Hid (Below w.heap.size w u) := by rw [hu]; exact below_setRow HBW.out (Nat.le_refl _) _
    have z0 := cell_of_row u w.heap.size 0 _ _ _ hux
    have z1 := cell_of_row u w.heap.size 1 _ _ _ hux
    have z2 := cell_of_row u w.heap.size 2 _ _ _ hux
    have z3 := cell_of_row u w.heap.size 3 _ _ _ hux
    clear hu hux
    refine bodyPost_ret (v := .tuple #[.agg #[.bool false, .int .i64 0, .int .i64 0, .slice none 0 0], .bool false]) (by simp [results, Tryd.results23, go_sem, z0, z1, z2, z3]) rfl ?_
    exact RKPost.no HN.out HBu.out
  have hrs' : ¬ 0 < rs.length := by omega
  by_cases hnm : nm.length ≤ 20
  rotate_left
  · have HN := no fun k => by have h := k.2.2.2.2.2; rw [K3.out] at h; exact hnm h
    have hb1 : 20 < (nm.length : Int) := by omega
    clear hnm no
    go_wp2_with ((with_reducible show wpList _ _ _ (Oper.mk _ (Op.store 24 (.tmp 2) _) _ _ _ _ :: _) _ _); (refine wp_store_row rfl rfl _ _ _ rfl w.heap.size _ _ 24 rfl rfl tb16_size HGW.out rfl (by simp [Value.oneCell']) ?_))
    obtain ⟨u, hu⟩ : ∃ u, u = World.setRow w4 w.heap.size #[.bool false, .int .i64 0, .int .i64 0, .slice none 0 0] := ⟨_, rfl⟩
    rw [← hu]
    have hux : u.heap[w.heap.size]? = some (.cells #[.bool false, .int .i64 0, .int .i64 0, .slice none 0 0] 24 (0, 0)) := by rw [hu]; exact setRow_heap _ w.heap.size _ _ _ _ HGW.out
    have HBu : Hid (Below w.heap.size w u) := by rw [hu]; exact below_setRow HBW.out (Nat.le_refl _) _
    have z0 := cell_of_row u w.heap.size 0 _ _ _ hux
    have z1 := cell_of_row u w.heap.size 1 _ _ _ hux
    have z2 := cell_of_row u w.heap.size 2 _ _ _ hux
    have z3 := cell_of_row u w.heap.size 3 _ _ _ hux
    clear hu hux
    refine bodyPost_ret (v := .tuple #[.agg #[.bool false, .int .i64 0, .int .i64 0, .slice none 0 0], .bool false]) (by simp [results, Tryd.results23, go_sem, z0, z1, z2, z3]) rfl ?_
    exact RKPost.no HN.out HBu.out
  · obtain ⟨l, hl⟩ : ∃ l, l = (y == 1) := ⟨_, rfl⟩
    have hlb : (y == 1) = l := hl.symm
    have HN : Hid (readK xs = some ⟨l, a1, a2, nm⟩) := by
      show _ = _
      rw [readK_yes ⟨⟨by have := HL.out; omega, by rw [← HYn.out]; omega⟩, by rw [K1.out], by rw [K2.out], by rw [K3.out], by rw [K3.out]; exact hrs, by rw [K3.out]; exact hnm⟩, K1.out, K2.out, K3.out, ← HYn.out]
      have : decide (y = 1) = l := by rw [hl]; rfl
      rw [this]
    have hb1 : ¬ 20 < (nm.length : Int) := by omega
    clear hnm no hl
    go_wp2_with ((with_reducible show wpList _ _ _ (Oper.mk _ (Op.store 24 (.tmp 2) _) _ _ _ _ :: _) _ _); (refine wp_store_row rfl rfl _ _ _ rfl w.heap.size _ _ 24 rfl rfl tb16_size HGW.out rfl (by simp [Value.oneCell']) ?_))
    obtain ⟨u, hu⟩ : ∃ u, u = World.setRow w4 w.heap.size #[.bool l, .int .i64 a1, .int .i64 a2, .slice A7 nm.length c7] := ⟨_, rfl⟩
    rw [← hu]
    have hux : u.heap[w.heap.size]? = some (.cells #[.bool l, .int .i64 a1, .int .i64 a2, .slice A7 nm.length c7] 24 (0, 0)) := by rw [hu]; exact setRow_heap _ w.heap.size _ _ _ _ HGW.out
    have HBu : Hid (Below w.heap.size w u) := by rw [hu]; exact below_setRow HBW.out (Nat.le_refl _) _
    have HOu : Hid (Rds B u .u8 A7 nm.length c7 nm) := by rw [hu]; exact HO7.out.setRow _ (HO7.out.ne_tok HGW.out)
    have z0 := cell_of_row u w.heap.size 0 _ _ _ hux
    have z1 := cell_of_row u w.heap.size 1 _ _ _ hux
    have z2 := cell_of_row u w.heap.size 2 _ _ _ hux
    have z3 := cell_of_row u w.heap.size 3 _ _ _ hux
    clear hu hux
    refine bodyPost_ret (v := .tuple #[.agg #[.bool l, .int .i64 a1, .int .i64 a2, .slice A7 nm.length c7], .bool true]) (by simp [results, Tryd.results23, go_sem, z0, z1, z2, z3]) rfl ?_
    exact RKPost.yes HN.out HOu.out HBu.out
end Go.Proofs.YtmaedahleenlgaaDoor

/- Layer 16's laws: Right, of, awake. No condition but the table of bit places. -/
set_option linter.unusedVariables false
set_option linter.unusedSimpArgs false
namespace Go.Proofs.YtmaedahleenlgaaDoor
open Go Go.RowKit Go.WideMaps

set_option maxHeartbeats 1600000 in
set_option maxRecDepth 100000 in
theorem r16right_any (x : Tok) (A : Option Addr) (c : Nat) (addr now life : Int) (w : World) (t0 : 0 ≤ x.time) (t1 : x.time ≤ 4611686018427387903) (hn : Fit now) :
    Calls Tryd.prog 19 #[TokV x A c, .int .i64 addr, .int .i64 now, .int .i64 life] w fun e w' => e = .returned (.int .i64 (rightK x addr now life)) ∧ Below w.heap.size w w' := by
  obtain ⟨xl, xa, xt, xn⟩ := x
  obtain ⟨E, hE⟩ : ∃ E, E = rightK ⟨xl, xa, xt, xn⟩ addr now life := ⟨_, rfl⟩
  rw [← hE]
  have HE := Lib.hid hE
  have hn1 := hn.2
  simp only [TokV] at t0 t1 ⊢
  clear hE
  go_enter Tryd.func19, Tryd.ntmps19
  by_cases ha : xa = addr
  rotate_left
  · have HN : Hid (E = 14) := by show _ = _; rw [HE.out]; exact if_pos ha
    have hab : (xa != addr) = true := by simp [ha]
    clear ha
    go_wp2_with fail
    go_ret
    exact ⟨by rw [HN.out]; rfl, below_new _⟩
  have HA := Lib.hid ha
  have hab : (xa != addr) = false := by simp [ha]
  clear ha
  by_cases h1 : now < xt
  · have HN : Hid (E = 9) := by show _ = _; rw [HE.out]; unfold rightK; rw [if_neg (by show ¬ xa ≠ addr; simp [HA.out]), if_pos (.inl h1)]
    go_wp2_with fail
    go_ret
    exact ⟨by rw [HN.out]; rfl, below_new _⟩
  have hsub : IntKind.i64.wrap (now - xt) = now - xt := by rw [IntKind.wrap_i64]; omega
  by_cases h2 : life < now - xt
  · have HN : Hid (E = 9) := by show _ = _; rw [HE.out]; unfold rightK; rw [if_neg (by show ¬ xa ≠ addr; simp [HA.out]), if_pos (.inr h2)]
    go_wp2_with fail
    go_ret
    exact ⟨by rw [HN.out]; rfl, below_new _⟩
  · have HN : Hid (E = 0) := by show _ = _; rw [HE.out]; unfold rightK; rw [if_neg (by show ¬ xa ≠ addr; simp [HA.out]), if_neg (by show ¬ (now < xt ∨ life < now - xt); omega)]
    go_wp2_with fail
    go_ret
    exact ⟨by rw [HN.out]; rfl, below_new _⟩

/-- Four cells are stored one by one. -/
theorem set4_tok {w : World} {g : Nat} {T : TypeId} {p q r s : Value} (h : w.heap[g]? = some (.cells #[p, q, r, s] T (0, 0))) (a b c d : Value) :
    ((((w.setCell ⟨g, 0, none⟩ a).setCell ⟨g, 1, none⟩ b).setCell ⟨g, 2, none⟩ c).setCell ⟨g, 3, none⟩ d).heap[g]? = some (.cells #[a, b, c, d] T (0, 0)) := by
  have h1 := blk_set1 (i := 0) h a
  have h2 := blk_set1 (i := 1) h1 b
  have h3 := blk_set1 (i := 2) h2 c
  have h4 := blk_set1 (i := 3) h3 d
  rw [h4]
  rfl
theorem four_keep {w V : World} {g : Nat} (hg : w.heap.size ≠ g) {x0 x1 x2 x3 : Value} (a b c d : Value) (h : V.cell? ⟨w.heap.size, 0, none⟩ = some x0 ∧ V.cell? ⟨w.heap.size, 1, none⟩ = some x1 ∧ V.cell? ⟨w.heap.size, 2, none⟩ = some x2 ∧ V.cell? ⟨w.heap.size, 3, none⟩ = some x3) :
    ((((V.setCell ⟨g, 0, none⟩ a).setCell ⟨g, 1, none⟩ b).setCell ⟨g, 2, none⟩ c).setCell ⟨g, 3, none⟩ d).cell? ⟨w.heap.size, 0, none⟩ = some x0 ∧ ((((V.setCell ⟨g, 0, none⟩ a).setCell ⟨g, 1, none⟩ b).setCell ⟨g, 2, none⟩ c).setCell ⟨g, 3, none⟩ d).cell? ⟨w.heap.size, 1, none⟩ = some x1 ∧
      ((((V.setCell ⟨g, 0, none⟩ a).setCell ⟨g, 1, none⟩ b).setCell ⟨g, 2, none⟩ c).setCell ⟨g, 3, none⟩ d).cell? ⟨w.heap.size, 2, none⟩ = some x2 ∧ ((((V.setCell ⟨g, 0, none⟩ a).setCell ⟨g, 1, none⟩ b).setCell ⟨g, 2, none⟩ c).setCell ⟨g, 3, none⟩ d).cell? ⟨w.heap.size, 3, none⟩ = some x3 := by
  have hn : ∀ (i j : Nat) (W : World) (v : Value), (W.setCell ⟨g, j, none⟩ v).cell? ⟨w.heap.size, i, none⟩ = W.cell? ⟨w.heap.size, i, none⟩ := fun i j W v => World.cell?_of_block (blk_other1 W v hg)
  simp only [hn]
  exact h
def OfPost (x : Tok) (w : World) (e : Ending) (w' : World) : Prop := ∃ A c, e = .returned (TokV x A c) ∧ OwnI w' w.heap.size .u8 (.slice A x.name.length c) x.name ∧ Below w.heap.size w w'
set_option maxHeartbeats 3200000 in
set_option maxRecDepth 100000 in
theorem of16_any {B : Nat} (l : Bool) (a t : Int) (nm : List Int) (A : Option Addr) (n c : Nat) (w : World) (h : Rds B w .u8 A n c nm) (hn : n ≤ 1000000) :
    Calls Tryd.prog 12 #[.agg #[.bool l, .int .i64 a, .int .i64 t, .slice A n c]] w (OfPost ⟨l, a, t, nm⟩ w) := by
  obtain ⟨W, hW⟩ : ∃ W, W = (w.alloc (.cells #[.bool l, .int .i64 a, .int .i64 t, .slice A n c] 24)).alloc (.cells #[.bool false, .int .i64 0, .int .i64 0, .slice none 0 0] 32) := ⟨_, rfl⟩
  have HBW : Hid (Below w.heap.size w W) := by rw [hW]; exact (below_new _).alloc (by simp) _
  have HSW : Hid (W.heap.size = w.heap.size + 1 + 1) := by rw [hW]; show _ = _; simp
  have hx : W.heap[w.heap.size]? = some (.cells #[.bool l, .int .i64 a, .int .i64 t, .slice A n c] 24 (0, 0)) := by rw [hW]; exact (Below.heap_alloc _ _ _ (by simp)).trans (heap_alloc_new w _)
  have hr : W.heap[w.heap.size + 1]? = some (.cells #[.bool false, .int .i64 0, .int .i64 0, .slice none 0 0] 32 (0, 0)) := by
    have := heap_alloc_new (w.alloc (.cells #[.bool l, .int .i64 a, .int .i64 t, .slice A n c] 24)) (.cells #[.bool false, .int .i64 0, .int .i64 0, .slice none 0 0] 32)
    rw [World.size_alloc] at this
    rw [hW]; exact this
  have HX := Lib.hid hx
  have HG := Lib.hid hr
  have x0 : W.cell? ⟨w.heap.size, 0, none⟩ = some (.bool l) := by rw [cell_of_row W _ 0 _ _ _ hx]; rfl
  have x1 : W.cell? ⟨w.heap.size, 1, none⟩ = some (.int .i64 a) := by rw [cell_of_row W _ 1 _ _ _ hx]; rfl
  have x2 : W.cell? ⟨w.heap.size, 2, none⟩ = some (.int .i64 t) := by rw [cell_of_row W _ 2 _ _ _ hx]; rfl
  have x3 : W.cell? ⟨w.heap.size, 3, none⟩ = some (.slice A n c) := by rw [cell_of_row W _ 3 _ _ _ hx]; rfl
  have HR := Lib.hid (h.below HBW.out)
  have HL := Lib.hid h.len
  clear h hx hr
  go_enter Tryd.func12, Tryd.ntmps12
  go_wp2_with fail
  rw [← hW]
  clear hW
  have lt : w.heap.size < W.heap.size := by have := HSW.out; omega
  have S0 : Hid (W.drew.cell? ⟨w.heap.size, 0, none⟩ = some (.bool l) ∧ W.drew.cell? ⟨w.heap.size, 1, none⟩ = some (.int .i64 a) ∧ W.drew.cell? ⟨w.heap.size, 2, none⟩ = some (.int .i64 t) ∧ W.drew.cell? ⟨w.heap.size, 3, none⟩ = some (.slice A n c)) := ⟨x0, x1, x2, x3⟩
  have S1 : Hid ((W.alloc (.cells #[] 5)).drew.cell? ⟨w.heap.size, 0, none⟩ = some (.bool l) ∧ (W.alloc (.cells #[] 5)).drew.cell? ⟨w.heap.size, 1, none⟩ = some (.int .i64 a) ∧ (W.alloc (.cells #[] 5)).drew.cell? ⟨w.heap.size, 2, none⟩ = some (.int .i64 t) ∧ (W.alloc (.cells #[] 5)).drew.cell? ⟨w.heap.size, 3, none⟩ = some (.slice A n c)) :=
    ⟨later_cell (below_new _).drew x0 lt, later_cell (below_new _).drew x1 lt, later_cell (below_new _).drew x2 lt, later_cell (below_new _).drew x3 lt⟩
  have HOE : Hid (OwnI (W.alloc (.cells #[] 5)).drew W.heap.size .u8 (.slice (some ⟨W.heap.size, 0, none⟩) 0 0) []) := OwnI.below (OwnI.empty (Nat.le_refl _) sp_u8) (Below.refl _ _).drew
  have HBE : Hid (Below W.heap.size W (W.alloc (.cells #[] 5)).drew) := (below_new _).drew
  have HRE := Lib.hid (HR.out.below HBE.out).cell
  go_region_held3 (fun w' => w'.cell? ⟨w.heap.size, 0, none⟩ = some (.bool l) ∧ w'.cell? ⟨w.heap.size, 1, none⟩ = some (.int .i64 a) ∧ w'.cell? ⟨w.heap.size, 2, none⟩ = some (.int .i64 t) ∧ w'.cell? ⟨w.heap.size, 3, none⟩ = some (.slice A n c)) (first | with_reducible exact S0.out | with_reducible exact S1.out | with_reducible exact S2.out | with_reducible exact S3.out | go_keep) ((first
    | (refine step_app_u8 (xs := []) (ys := nm) rfl _ _ rfl rfl rfl HOE.out HRE.out HL.out HBE.out.size (by simp; omega) ?_
       intro v3 w3 ho hg hb
       rw [List.nil_append] at ho
       obtain ⟨A3, c3, rfl⟩ := ho.slice
       have HB3 := Lib.hid (HBE.out.trans hb)
       have HO3 := Lib.hid ho
       have HG3 : Hid (w3.heap[w.heap.size + 1]? = some (.cells #[.bool false, .int .i64 0, .int .i64 0, .slice none 0 0] 32 (0, 0))) := (HB3.out.block _ (by have := HSW.out; omega)).trans HG.out
       have S2 : Hid (w3.cell? ⟨w.heap.size, 0, none⟩ = some (.bool l) ∧ w3.cell? ⟨w.heap.size, 1, none⟩ = some (.int .i64 a) ∧ w3.cell? ⟨w.heap.size, 2, none⟩ = some (.int .i64 t) ∧ w3.cell? ⟨w.heap.size, 3, none⟩ = some (.slice A n c)) := ⟨later_cell HB3.out x0 lt, later_cell HB3.out x1 lt, later_cell HB3.out x2 lt, later_cell HB3.out x3 lt⟩
       have r0 : w3.cell? ⟨w.heap.size + 1, 0, none⟩ = some (.bool false) := by rw [cell_of_row w3 _ 0 _ _ _ HG3.out]; rfl
       have r1 : w3.cell? ⟨w.heap.size + 1, 1, none⟩ = some (.int .i64 0) := by rw [cell_of_row w3 _ 1 _ _ _ HG3.out]; rfl
       have r2 : w3.cell? ⟨w.heap.size + 1, 2, none⟩ = some (.int .i64 0) := by rw [cell_of_row w3 _ 2 _ _ _ HG3.out]; rfl
       have r3 : w3.cell? ⟨w.heap.size + 1, 3, none⟩ = some (.slice none 0 0) := by rw [cell_of_row w3 _ 3 _ _ _ HG3.out]; rfl
       have f0 := free_row HG3.out 0
       have f1 := free_row HG3.out 1
       have f2 := free_row HG3.out 2
       have f3 := free_row HG3.out 3
       have S3 := Lib.hid (four_keep (w := w) (g := w.heap.size + 1) (by omega) (.bool l) (.int .i64 a) (.int .i64 t) (.slice A3 nm.length c3) S2.out)
       clear ho hg hb HOE HRE HBE)))
  all_goals
    rename_i hHeld
    clear hHeld
    obtain ⟨u, hu⟩ : ∃ u, u = ((((w3.setCell ⟨w.heap.size + 1, 0, none⟩ (.bool l)).setCell ⟨w.heap.size + 1, 1, none⟩ (.int .i64 a)).setCell ⟨w.heap.size + 1, 2, none⟩ (.int .i64 t)).setCell ⟨w.heap.size + 1, 3, none⟩ (.slice A3 nm.length c3)) := ⟨_, rfl⟩
    rw [← hu]
    have hux : TbAt u (w.heap.size + 1) l a t (.slice A3 nm.length c3) := by rw [hu]; exact set4_tok HG3.out _ _ _ _
    have hq : w.heap.size ≤ w.heap.size + 1 := Nat.le_succ _
    have hq2 : w.heap.size + 1 < W.heap.size := by have := HSW.out; omega
    have HBu : Hid (Below w.heap.size w u) := by rw [hu]; exact ((((HBW.out.trans (HB3.out.mono HBW.out.size)).setCell hq _).setCell hq _).setCell hq _).setCell hq _
    have HOu : Hid (OwnI u w.heap.size .u8 (.slice A3 nm.length c3) nm) := by rw [hu]; exact ((((HO3.out.setBelow hq2 _).setBelow hq2 _).setBelow hq2 _).setBelow hq2 _).mono (Nat.le_of_lt lt)
    have z0 := hux.x0
    have z1 := hux.x1
    have z2 := hux.x2
    have z3 := hux.x3
    clear hu hux
    go_wp2_with fail
    refine bodyPost_ret (v := .agg #[.bool l, .int .i64 a, .int .i64 t, .slice A3 nm.length c3]) (by simp [results, Tryd.results12, go_sem, z0, z1, z2, z3]) rfl ?_
    exact ⟨A3, c3, rfl, HOu.out, HBu.out⟩

set_option maxHeartbeats 1600000 in
set_option maxRecDepth 100000 in
theorem awake16_any (w : World) (hz : Tz w) : Calls Tryd.prog 14 #[] w (AwakePost w) := by
  have HZ := Lib.hid hz
  clear hz
  go_enter Tryd.func14, Tryd.ntmps14
  go_wp2_with fail
  refine (new_any w).mono ?_
  rintro e w1 ⟨tb, rfl, ht1, hb1⟩
  have HB1 := Lib.hid hb1
  have key := secret_any w1 ht1
  clear hb1 ht1
  go_wp2_with fail
  refine key.mono ?_
  clear key
  rintro e w2 p
  obtain ⟨rfl, ht, hf⟩ := p.intro sec1
  have HB2 := Lib.hid (HB1.out.trans (hf.below HB1.out.size))
  have HW2 := Lib.hid ht.1
  have key := mint_any (B' := 0) 1 false 5 10 [] none 0 0 w2 ht ⟨by decide, by decide⟩ (Rds.nil _ _ _) (by decide) (HZ.out.later HB2.out)
  clear p ht hf HB1
  go_wp2_with fail
  refine key.mono ?_
  clear key
  rintro e w4 p
  obtain ⟨tx, hT, -⟩ := mint_at (key := 1) (x := ⟨false, 5, 10, []⟩) HW2.out (by decide) sec_in1 (by decide)
  obtain ⟨⟨T4, h⟩, e4⟩ : ∃ r, mintT [secN] 1 ⟨false, 5, 10, []⟩ = r := ⟨_, rfl⟩
  rw [e4] at hT
  obtain ⟨rfl, ht, hf⟩ := p.intro e4
  simp only at hT
  have HB4 := Lib.hid (HB2.out.trans (hf.below HB2.out.size))
  have HT4 := Lib.hid ht
  have hh := hT.pos
  have hhb : (h != 0) = true := by simp [hh]
  have HFh := Lib.hid (fit_in ht.1 hT.sl.in_)
  have HLK : Hid (lookK T4 1 h = some ⟨false, 5, 10, []⟩) := hT.lookN (by decide) (fun x hx => by simp at hx)
  have key := tcheck_any 1 h 5 13 3 w4 ht HFh.out ⟨by decide, by decide⟩
  rw [HLK.out, show checkX (some ⟨false, 5, 10, []⟩) 5 13 3 = ⟨false, 5, 10, []⟩ from by decide, show checkE (some ⟨false, 5, 10, []⟩) 5 13 3 = 0 from by decide] at key
  clear p e4 ht hf HB2 hT hh HW2
  go_wp2_with fail
  refine key.mono ?_
  clear key
  rintro e w5 ⟨A5, c5, rfl, ho, hb⟩
  simp only [TokV, List.length_nil]
  obtain ⟨V5, hV⟩ : ∃ V, V = w5.alloc (.cells #[.bool false, .int .i64 5, .int .i64 10, .slice A5 0 c5] 32) := ⟨_, rfl⟩
  have hbV : Below w5.heap.size w5 V5 := by rw [hV]; exact below_new _
  have HB5 := Lib.hid (below_next HB4.out HB4.out.size (below_next hb hb.size hbV))
  have HT5 := Lib.hid (HT4.out.below (below_next hb hb.size hbV))
  have key := tcheck_any 1 h 5 14 3 V5 HT5.out HFh.out ⟨by decide, by decide⟩
  rw [HLK.out, show checkX (some ⟨false, 5, 10, []⟩) 5 14 3 = tok0 from by decide, show checkE (some ⟨false, 5, 10, []⟩) 5 14 3 = 9 from by decide] at key
  clear hb hbV HB4 HT4 ho HLK
  go_wp2_with fail
  rw [← hV]
  clear hV
  refine key.mono ?_
  clear key
  rintro e w6 ⟨A6, c6, rfl, ho, hb⟩
  simp only [TokV, tok0, List.length_nil]
  have HB6 := Lib.hid (below_next HB5.out HB5.out.size hb)
  clear ho hb
  go_wp2_with fail
  go_ret
  exact ⟨rfl, HB6.out.alloc HB6.out.size _⟩
end Go.Proofs.YtmaedahleenlgaaDoor
