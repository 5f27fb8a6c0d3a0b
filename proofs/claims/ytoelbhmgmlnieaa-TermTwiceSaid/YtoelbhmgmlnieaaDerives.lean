/- The walk of IdealDerives. No condition. -/
import Derived.Test.YtoelbhmgmlnieaaTabIdeal
import Derived.Test.YtoelbhmgmlnieaaIdeal5
set_option linter.unusedVariables false
set_option linter.unusedSimpArgs false
namespace Go.Proofs.Ytoelbhmgmlnieaa
open Go Go.RowKit Go.WideMaps

theorem getT_uniq {T : List Nd} (hw : WfT T) {h h' : Int} {n : Nd} (e : getT T h = some n) (e' : getT T h' = some n) (hk : n.kind ≠ 2) : h = h' := by
  have r := getT_range e
  have r' := getT_range e'
  obtain ⟨i, rfl⟩ : ∃ i : Nat, h = (i : Int) + 1 := ⟨(h - 1).toNat, by omega⟩
  obtain ⟨j, rfl⟩ : ∃ i : Nat, h' = (i : Int) + 1 := ⟨(h' - 1).toNat, by omega⟩
  rw [getT_nat] at e e'
  have a := lookT_of hw e hk
  have b := lookT_of hw e' hk
  rw [a] at b
  simp at b
  omega
theorem addT_spec {T : List Nd} {n : Nd} (hl : T.length < 65536) : getT (addT T n).1 (addT T n).2 = some n ∧ ∃ R, (addT T n).1 = T ++ R ∧ R.length ≤ 1 := by
  unfold addT
  split
  · rename_i i hi
    split at hi
    · cases hi
    · exact ⟨by rw [getT_nat]; exact lookT_some hi, [], by simp, by simp⟩
  · rw [if_neg (by omega)]
    exact ⟨by simp only [getT_nat]; simp, [n], rfl, by simp⟩
def nT (b : ByteArray) : Nd := ⟨1, b, []⟩
theorem textT_spec {T : List Nd} {b : ByteArray} (hb : b.size ≤ 2048) (hl : T.length < 65536) : getT (textT T b).1 (textT T b).2 = some (nT b) ∧ ∃ R, (textT T b).1 = T ++ R ∧ R.length ≤ 1 := by
  unfold textT
  rw [if_pos hb]
  exact addT_spec hl
theorem make6_spec {T : List Nd} {k s h c : Int} {ns nh nc : Nd} (hk : k = 6 ∨ k = 10) (e1 : getT T s = some ns) (e2 : getT T h = some nh) (e3 : getT T c = some nc) (k1 : ns.kind ≠ 0) (k2 : nh.kind = 1) (k3 : nc.kind ≠ 0) (hl : T.length < 65536) :
    getT (makeT T k [s, h, c]).1 (makeT T k [s, h, c]).2 = some ⟨k, ByteArray.empty, [s, h, c]⟩ ∧ ∃ R, (makeT T k [s, h, c]).1 = T ++ R ∧ R.length ≤ 1 := by
  have hm : [s, h, c].map (kindT T) = [ns.kind, 1, nc.kind] := by simp [kindT_get e1, kindT_get e2, kindT_get e3, k2]
  have hf : formedT k ([s, h, c].map (kindT T)) = true := by
    rw [hm]
    rcases hk with rfl | rfl <;> simp [formedT, nth]
  rw [make_yes (by rw [hm]; simp; omega) hf, show ownT T k [s, h, c] = [s, h, c] from if_neg (by omega)]
  exact addT_spec hl
structure DSpec (T : List Nd) (s : Int) (l : ByteArray) (c : Int) (T' : List Nd) (x : Int) (ha ec : Int) : Prop where
  node : getT T' x = some ⟨6, ByteArray.empty, [s, ha, ec]⟩
  text : getT T' ha = some (nT l)
  ctx0 : c = 0 → getT T' ec = some (nT ByteArray.empty)
  ctx1 : c ≠ 0 → ec = c
  sub : ∃ R, T' = T ++ R ∧ R.length ≤ 3
theorem deriveT_spec {T : List Nd} {s c : Int} {l : ByteArray} {ns nc : Nd} (hl : l.size ≤ 2048) (hT : T.length < 60000) (e1 : getT T s = some ns) (k1 : ns.kind ≠ 0) (e3 : c ≠ 0 → getT T c = some nc) (k3 : c ≠ 0 → nc.kind ≠ 0) : ∃ ha ec, DSpec T s l c (deriveT T s l c).1 (deriveT T s l c).2 ha ec := by
  have hctx : ∃ nc', getT (ctxT T c).1 (ctxT T c).2 = some nc' ∧ nc'.kind ≠ 0 ∧ (c = 0 → nc' = nT ByteArray.empty) ∧ (c ≠ 0 → (ctxT T c).2 = c) ∧ ∃ R, (ctxT T c).1 = T ++ R ∧ R.length ≤ 1 := by
    unfold ctxT
    by_cases hc : c = 0
    · rw [if_pos hc]
      obtain ⟨a, R, b⟩ := textT_spec (T := T) (b := ByteArray.empty) (by show ByteArray.empty.size ≤ 2048; decide) (by omega)
      exact ⟨_, a, by simp [nT], fun _ => rfl, fun h => absurd hc h, R, b⟩
    · rw [if_neg hc]
      exact ⟨nc, e3 hc, k3 hc, fun h => absurd h hc, fun _ => rfl, [], by simp, by simp⟩
  obtain ⟨nc', a1, a2, a3, a4, R1, a5, a6⟩ := hctx
  obtain ⟨b1, R2, b2, b3⟩ := textT_spec (T := (ctxT T c).1) (b := l) hl (by rw [a5]; simp; omega)
  have e1' : getT (textT (ctxT T c).1 l).1 s = some ns := by rw [b2, a5, List.append_assoc]; exact getT_mono e1
  have a1' : getT (textT (ctxT T c).1 l).1 (ctxT T c).2 = some nc' := by rw [b2]; exact getT_mono a1
  obtain ⟨c1, R3, c2, c3⟩ := make6_spec (k := 6) (.inl rfl) e1' b1 a1' k1 rfl a2 (by rw [b2, a5]; simp; omega)
  refine ⟨(textT (ctxT T c).1 l).2, (ctxT T c).2, c1, ?_, fun h => ?_, a4, R1 ++ R2 ++ R3, ?_, by simp; omega⟩
  · show getT (makeT _ 6 _).1 _ = _
    rw [c2]; exact getT_mono b1
  · show getT (makeT _ 6 _).1 _ = _
    rw [c2]; rw [← a3 h]; exact getT_mono a1'
  · show (makeT _ 6 _).1 = _
    rw [c2, b2, a5]; simp

theorem derive_step {B tb : Nat} {T : List Nd} {s c : Int} {l : ByteArray} {ns nc : Nd} (w : World) (ht : IsTab B w tb T) (hl : l.size ≤ 2048) (hT : T.length < 60000) (e1 : getT T s = some ns) (k1 : ns.kind ≠ 0) (e3 : c ≠ 0 → getT T c = some nc) (k3 : c ≠ 0 → nc.kind ≠ 0) :
    Calls Try.prog 50 #[.pointer (some ⟨tb, 0, none⟩), .int .i64 s, .string l, .int .i64 c] w fun e w' => ∃ T' x ha ec R, e = .returned (.int .i64 x) ∧ IsTab B w' tb T' ∧ Frm tabO B w w' ∧ DSpec T s l c T' x ha ec ∧ T' = T ++ R ∧ R.length ≤ 3 := by
  have hs := getT_range e1
  have hc : BigI c := by
    by_cases h : c = 0
    · subst h; exact ⟨by omega, by omega⟩
    · have := getT_range (e3 h); exact ⟨by omega, by omega⟩
  refine (derive_any s l c w ht ⟨by omega, by omega⟩ hc (by omega)).mono ?_
  rintro e w' ⟨h1, h2, h3⟩
  obtain ⟨ha, ec, D⟩ := deriveT_spec (nc := nc) hl hT e1 k1 e3 k3
  obtain ⟨R, hR⟩ := D.sub
  exact ⟨_, _, ha, ec, R, h1, h2, h3, D, hR.1, hR.2⟩

theorem str_beq (a b : ByteArray) : (a.toList == b.toList) = decide (a = b) := by
  rw [ByteArray.toList_eq, ByteArray.toList_eq]
  by_cases h : a = b
  · subst h; simp
  · rw [decide_eq_false h]
    cases hq : (a.data.toList == b.data.toList) with
    | false => rfl
    | true =>
      exfalso; apply h
      have := eq_of_beq hq
      cases a; cases b; simp at this; simp [this]
theorem getT_ne {T : List Nd} {h h' : Int} {n n' : Nd} (e : getT T h = some n) (e' : getT T h' = some n') (hn : n ≠ n') : h ≠ h' := by
  rintro rfl
  rw [e] at e'
  exact hn (Option.some.inj e')
theorem derives_facts {T3 T4 T5 T6 T7 R5 R6 R7 : List Nd} {a b : ByteArray} {x y z v hx hy hz hv ex ey ez ev : Int} (D4 : DSpec T3 1 a 0 T4 x hx ex) (D5 : DSpec T4 1 b 0 T5 y hy ey) (D6 : DSpec T5 2 a 0 T6 z hz ez) (D7 : DSpec T6 1 a 2 T7 v hv ev)
    (r5 : T5 = T4 ++ R5) (r6 : T6 = T5 ++ R6) (r7 : T7 = T6 ++ R7) (hw : WfT T7) (s2 : getT T7 2 = some nS) :
    (x == y) = (a.toList == b.toList) ∧ ¬x = z ∧ ¬x = v ∧ ¬x = 0 ∧ getT T7 x = some ⟨6, ByteArray.empty, [1, hx, ex]⟩ ∧ getT T7 hx = some (nT a) ∧ getT T7 ex = some (nT ByteArray.empty) := by
  have up4 : ∀ {h : Int} {n : Nd}, getT T4 h = some n → getT T7 h = some n := fun e => by rw [r7, r6, r5]; exact getT_mono (getT_mono (getT_mono e))
  have up5 : ∀ {h : Int} {n : Nd}, getT T5 h = some n → getT T7 h = some n := fun e => by rw [r7, r6]; exact getT_mono (getT_mono e)
  have up6 : ∀ {h : Int} {n : Nd}, getT T6 h = some n → getT T7 h = some n := fun e => by rw [r7]; exact getT_mono e
  have x1 := up4 D4.node
  have x2 := up4 D4.text
  have x3 := up4 (D4.ctx0 rfl)
  have y1 := up5 D5.node
  have y2 := up5 D5.text
  have y3 := up5 (D5.ctx0 rfl)
  have z1 := up6 D6.node
  have v1 := D7.node
  have v3 := D7.ctx1 (by decide)
  obtain rfl : ey = ex := getT_uniq hw y3 x3 (by simp [nT])
  refine ⟨?_, ?_, ?_, ?_, x1, x2, x3⟩
  · rw [str_beq]
    by_cases h : a = b
    · subst h
      obtain rfl : hy = hx := getT_uniq hw y2 x2 (by simp [nT])
      obtain rfl : x = y := getT_uniq hw x1 y1 (by simp)
      simp
    · have : x ≠ y := getT_ne x1 y1 (by
        have := getT_ne x2 y2 (by simp [nT, h])
        simp [this])
      simp [h, this]
  · exact getT_ne x1 z1 (by simp)
  · have : ey ≠ 2 := getT_ne x3 s2 (by simp [nT, nS])
    exact getT_ne x1 v1 (by simp [v3, this])
  · have := getT_range x1
    omega

set_option maxHeartbeats 1600000 in
set_option maxRecDepth 100000 in
theorem derives_walk (w : World) (a b : ByteArray) : Calls Try.prog 13 #[.string a, .string b] w (AwakePost w) := by
  go_enter Try.func13, Try.ntmps13
  by_cases ha : 50 < a.size
  · go_wp2_with fail
    go_ret
    exact ⟨rfl, Below.refl _ _⟩
  by_cases hb : 50 < b.size
  · go_wp2_with fail
    go_ret
    exact ⟨rfl, Below.refl _ _⟩
  go_wp2_with fail
  refine (new_any w).mono ?_
  rintro e w1 ⟨tb, rfl, ht1, hb1⟩
  have HT1 := Lib.hid ht1
  have HF1 := Lib.hid (Frm.of_below (C := tabO) (B := w.heap.size) hb1)
  clear ht1 hb1
  go_wp2_with fail
  refine (secret_any w1 HT1.out).mono ?_
  rintro e w2 p2
  obtain ⟨rfl, ht2, hf2⟩ := p2.intro aw1
  have HT2 := Lib.hid ht2
  have HF2 := Lib.hid (HF1.out.trans hf2)
  clear p2 ht2 hf2 HF1 HT1
  go_wp2_with fail
  refine (secret_any w2 HT2.out).mono ?_
  rintro e w3 p3
  obtain ⟨rfl, ht3, hf3⟩ := p3.intro aw2
  have HT3 := Lib.hid ht3
  have HF3 := Lib.hid (HF2.out.trans hf3)
  clear p3 ht3 hf3 HF2 HT2
  go_wp2_with fail
  obtain ⟨T3, hT3⟩ : ∃ T3, T3 = [nS, nS] := ⟨_, rfl⟩
  have S3 : Hid (getT T3 1 = some nS ∧ getT T3 2 = some nS) := by rw [hT3]; exact ⟨rfl, rfl⟩
  have L3 : T3.length ≤ 2 := by rw [hT3]; simp
  rw [← hT3] at HT3
  clear hT3
  refine (derive_step (T := T3) (s := 1) (c := 0) (l := a) w3 HT3.out (by omega) (by omega) S3.out.1 (by decide) (nc := nS) (fun h => absurd rfl h) (fun h => absurd rfl h)).mono ?_
  rintro e w4 ⟨T4, x, hx, ex, R4, rfl, ht4, hf4, d4, hR4, hl4⟩
  have HT4 := Lib.hid ht4
  have HF4 := Lib.hid (HF3.out.trans hf4)
  have D4 := Lib.hid d4
  have HR4 := Lib.hid hR4
  have L4 : T4.length ≤ T3.length + 3 := by rw [hR4]; simp; omega
  have S4 : Hid (getT T4 1 = some nS ∧ getT T4 2 = some nS) := by
    refine ⟨?_, ?_⟩
    · rw [hR4]; exact getT_mono S3.out.1
    · rw [hR4]; exact getT_mono S3.out.2
  clear ht4 hf4 d4 hR4 HF3
  go_wp2_with fail
  refine (derive_step (T := T4) (s := 1) (c := 0) (l := b) w4 HT4.out (by omega) (by omega) S4.out.1 (by decide) (nc := nS) (fun h => absurd rfl h) (fun h => absurd rfl h)).mono ?_
  rintro e w5 ⟨T5, y, hy, ey, R5, rfl, ht5, hf5, d5, hR5, hl5⟩
  have HT5 := Lib.hid ht5
  have HF5 := Lib.hid (HF4.out.trans hf5)
  have D5 := Lib.hid d5
  have HR5 := Lib.hid hR5
  have L5 : T5.length ≤ T4.length + 3 := by rw [hR5]; simp; omega
  have S5 : Hid (getT T5 1 = some nS ∧ getT T5 2 = some nS) := by
    refine ⟨?_, ?_⟩
    · rw [hR5]; exact getT_mono S4.out.1
    · rw [hR5]; exact getT_mono S4.out.2
  clear ht5 hf5 d5 hR5 HF4
  go_wp2_with fail
  refine (derive_step (T := T5) (s := 2) (c := 0) (l := a) w5 HT5.out (by omega) (by omega) S5.out.2 (by decide) (nc := nS) (fun h => absurd rfl h) (fun h => absurd rfl h)).mono ?_
  rintro e w6 ⟨T6, z, hz, ez, R6, rfl, ht6, hf6, d6, hR6, hl6⟩
  have HT6 := Lib.hid ht6
  have HF6 := Lib.hid (HF5.out.trans hf6)
  have D6 := Lib.hid d6
  have HR6 := Lib.hid hR6
  have L6 : T6.length ≤ T5.length + 3 := by rw [hR6]; simp; omega
  have S6 : Hid (getT T6 1 = some nS ∧ getT T6 2 = some nS) := by
    refine ⟨?_, ?_⟩
    · rw [hR6]; exact getT_mono S5.out.1
    · rw [hR6]; exact getT_mono S5.out.2
  clear ht6 hf6 d6 hR6 HF5
  go_wp2_with fail
  refine (derive_step (T := T6) (s := 1) (c := 2) (l := a) w6 HT6.out (by omega) (by omega) S6.out.1 (by decide) (nc := nS) (fun _ => S6.out.2) (fun _ => by decide)).mono ?_
  rintro e w7 ⟨T7, v, hv, ev, R7, rfl, ht7, hf7, d7, hR7, hl7⟩
  have HT7 := Lib.hid ht7
  have HF7 := Lib.hid (HF6.out.trans hf7)
  have D7 := Lib.hid d7
  have HR7 := Lib.hid hR7
  have L7 : T7.length ≤ T6.length + 3 := by rw [hR7]; simp; omega
  have S7 : Hid (getT T7 1 = some nS ∧ getT T7 2 = some nS) := by
    refine ⟨?_, ?_⟩
    · rw [hR7]; exact getT_mono S6.out.1
    · rw [hR7]; exact getT_mono S6.out.2
  clear ht7 hf7 d7 hR7 HF6
  obtain ⟨f1, f2, f3, f4, f5, f6, f7⟩ := derives_facts D4.out D5.out D6.out D7.out HR5.out HR6.out HR7.out HT7.out.1 S7.out.2
  have F5 := Lib.hid f5
  have F6 := Lib.hid f6
  have F7 := Lib.hid f7
  clear f5 f6 f7 HT6 HT5 HT4 HT3 D4 D5 D6 D7 HR4 HR5 HR6 HR7 S3 S4 S5 S6
  have hL7 : T7.length ≤ 20 := by omega
  clear L3 L4 L5 L6 L7 hl4 hl5 hl6 hl7
  go_wp2_with fail
  refine (text_any none 0 0 [] w7 HT7.out (Rds.nil 0 _ _)).mono ?_
  rintro e w8 p8
  obtain ⟨⟨T8, t⟩, he8⟩ : ∃ r, textT T7 ByteArray.empty = r := ⟨_, rfl⟩
  obtain ⟨rfl, ht8, hf8⟩ := p8.intro (show textT T7 (strOfNums []) = (T8, t) from he8)
  obtain ⟨t1, R8, hR8, hl8⟩ := textT_spec (T := T7) (b := ByteArray.empty) (by show ByteArray.empty.size ≤ 2048; decide) (by omega)
  rw [he8] at t1 hR8
  simp only at t1 hR8
  have ht0 := getT_range t1
  have HT8 := Lib.hid ht8
  have HF8 := Lib.hid (HF7.out.trans hf8)
  have T1 := Lib.hid t1
  have HR8 := Lib.hid hR8
  have hL8 : T8.length ≤ 21 := by rw [hR8]; simp; omega
  clear p8 ht8 hf8 t1 hR8 he8 HF7
  go_wp2_with fail
  refine (derive_step (T := T8) (s := 1) (c := t) (l := a) w8 HT8.out (by omega) (by omega) (ns := nS) (by rw [HR8.out]; exact getT_mono S7.out.1) (by decide) (nc := nT ByteArray.empty) (fun _ => T1.out) (fun _ => by simp [nT])).mono ?_
  rintro e w9 ⟨T9, q, hq, eq, R9, rfl, ht9, hf9, d9, hR9, hl9⟩
  obtain rfl : q = x := by
    have hw := ht9.1
    have up : ∀ {h : Int} {n : Nd}, getT T7 h = some n → getT T9 h = some n := fun e => by rw [hR9, HR8.out]; exact getT_mono (getT_mono e)
    have e1 : eq = ex := by
      rw [d9.ctx1 (by omega)]
      refine getT_uniq hw ?_ (up F7.out) (by simp [nT])
      rw [hR9]; exact getT_mono T1.out
    have e2 : hq = hx := getT_uniq hw d9.text (up F6.out) (by simp [nT])
    subst e1 e2
    exact getT_uniq hw d9.node (up F5.out) (by simp)
  have HF9 := Lib.hid (HF8.out.trans hf9)
  clear ht9 hf9 d9 hR9 HF8
  go_wp2_with fail
  refine (awake04 w9).mono ?_
  rintro e w10 ⟨rfl, hb10⟩
  have HF10 := Lib.hid (HF9.out.trans (.of_below hb10))
  clear hb10 HF9
  go_wp2_with fail
  go_ret
  refine ⟨?_, HF10.out.below (Nat.le_refl _)⟩
  show Ending.returned (.bool (q != z && q != v && q != 0)) = _
  simp [f2, f3, f4]
theorem derives_row (w : World) (a : ByteArray) (wa : a.size ≤ maxLen) (b : ByteArray) (wb : b.size ≤ maxLen) : Calls Try.prog 13 #[.string a, .string b] w fun e w' => e = .returned (.bool true) ∧ Below w.heap.size w w' := derives_walk w a b
end Go.Proofs.Ytoelbhmgmlnieaa
