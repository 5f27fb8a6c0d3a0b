/- The walk of IdealOpens. No condition. -/
import Derived.Test.YtoelbhmgmlnieaaDerives
set_option linter.unusedVariables false
set_option linter.unusedSimpArgs false
namespace Go.Proofs.Ytoelbhmgmlnieaa
open Go Go.RowKit Go.WideMaps

set_option maxHeartbeats 800000 in
set_option maxRecDepth 100000 in
theorem seal_any {B B' tb : Nat} {T : List Nd} (k : Int) (A : Option Addr) (n c : Nat) (xs : List Int) (m : Int) (w : World) (ht : IsTab B w tb T) (hk : BigI k) (hm : BigI m) (hr : Rds B' w .u8 A n c xs) :
    Calls Try.prog 51 #[.pointer (some ⟨tb, 0, none⟩), .int .i64 k, .slice A n c, .int .i64 m] w (TabPost B tb w (sealT T k (strOfNums xs) m)) := by
  have HT := Lib.hid ht
  have HR := Lib.hid hr
  clear ht hr
  obtain ⟨k0, k1⟩ := hk
  obtain ⟨m0, m1⟩ := hm
  go_enter Try.func51, Try.ntmps51
  go_wp2_with fail
  refine (text_any A n c xs w HT.out HR.out).mono ?_
  rintro e w1 p1
  obtain ⟨⟨T1, h1⟩, he1⟩ : ∃ r, textT T (strOfNums xs) = r := ⟨_, rfl⟩
  obtain ⟨rfl, ht1, hf1⟩ := p1.intro he1
  have hr1 := textT_range (b := strOfNums xs) HT.out.1.len
  rw [he1] at hr1
  simp only at hr1
  have HT1 := Lib.hid ht1
  have HF1 := Lib.hid hf1
  have HE1 := Lib.hid he1
  clear p1 he1 ht1 hf1
  go_wp2_with fail
  refine (make_lit 10 [k, h1, m] w1 HT1.out rfl (by simp [I64]; omega) (by simp) _ rfl ?_ 3 rfl).mono ?_
  · decide
  rintro e w4 p4
  have P4 := Lib.hid (tabPost_next HF1.out p4)
  obtain ⟨rfl, -, -⟩ := p4
  go_wp2_with fail
  go_ret
  have := P4.out
  unfold sealT
  rw [HE1.out]
  exact this

theorem look_node {B tb : Nat} {T : List Nd} (h : Int) (n : Nd) (w : World) (ht : IsTab B w tb T) (e : getT T h = some n) :
    Calls Try.prog 45 #[.pointer (some ⟨tb, 0, none⟩), .int .i64 h] w fun e w' => ∃ A c, e = .returned (.tuple #[.agg #[.int .i64 n.kind, .string n.text, .slice A n.parts.length c], .bool true]) ∧ OwnI w' w.heap.size .i64 (.slice A n.parts.length c) n.parts ∧ Below w.heap.size w w' := by
  have hr := getT_range e
  have := ht.1.len
  refine (look_any h w ht (by omega) (by omega)).mono ?_
  rintro e' w' ⟨A, c, rfl, ho, hb⟩
  have h1 : nodeT T h = n := by unfold nodeT; rw [e]; rfl
  have h2 : (getT T h).isSome = true := by rw [e]; rfl
  rw [h1] at ho
  rw [h1, h2]
  exact ⟨A, c, rfl, ho, hb⟩
def openT (k0 m0 key : Int) (hd s : ByteArray) : Int × Bool := if k0 = key ∧ hd = s then (m0, true) else (0, false)
def OpenPost (r : Int × Bool) (w : World) (e : Ending) (w' : World) : Prop := e = .returned (.tuple #[.int .i64 r.1, .bool r.2]) ∧ Below w.heap.size w w'

set_option maxHeartbeats 1600000 in
set_option maxRecDepth 100000 in
theorem open_any {B B' tb : Nat} {T : List Nd} (key sealed k0 h0 m0 : Int) (hd : ByteArray) (A : Option Addr) (n c : Nat) (xs : List Int) (w : World) (ht : IsTab B w tb T) (e1 : getT T sealed = some ⟨10, ByteArray.empty, [k0, h0, m0]⟩) (e2 : getT T h0 = some (nT hd)) (hr : Rds B' w .u8 A n c xs) :
    Calls Try.prog 52 #[.pointer (some ⟨tb, 0, none⟩), .int .i64 key, .slice A n c, .int .i64 sealed] w (OpenPost (openT k0 m0 key hd (strOfNums xs)) w) := by
  have HT := Lib.hid ht
  have HR := Lib.hid hr
  have E1 := Lib.hid e1
  have E2 := Lib.hid e2
  clear ht hr e1 e2
  go_enter Try.func52, Try.ntmps52
  go_wp2_with fail
  refine (look_node sealed _ w HT.out E1.out).mono ?_
  rintro e w1 ⟨A1, c1, rfl, ho1, hb1⟩
  obtain ⟨g, cap, q1, q2, q3, q4, q5, q6, q7⟩ := ho1.form (by simp)
  simp only [List.length_cons, List.length_nil, Value.slice.injEq] at q1 q5
  obtain ⟨rfl, -, rfl⟩ := q1
  have x0 := q5 0 (by omega)
  have x1 := q5 1 (by omega)
  have x2 := q5 2 (by omega)
  simp only [nth, List.getD_cons_zero, List.getD_cons_succ] at x0 x1 x2
  have HB1 := Lib.hid hb1
  have hs1 := hb1.size
  clear ho1 hb1 q4 q5 q6 q7
  by_cases hk : k0 = key
  · subst hk
    go_wp2_with fail
    have hb1' : Below w.heap.size w (w1.alloc (.cells #[.int .i64 10, .string ByteArray.empty, .slice (some ⟨g, 0, none⟩) 3 c1] 84)) := HB1.out.alloc hs1 _
    refine (look_node h0 _ _ (HT.out.below hb1') E2.out).mono ?_
    rintro e w2 ⟨A2, c2, rfl, ho2, hb2⟩
    have y2 := cell_later hb2 (a := ⟨w1.heap.size, 2, none⟩) (v := .slice (some ⟨g, 0, none⟩) 3 c1) (by simp [go_sem])
    have z2 := cell_later hb2 (a := ⟨g, 2, none⟩) (v := .int .i64 m0) (by rw [World.cell?_alloc_lt _ _ _ q3]; exact x2)
    have HB2 := Lib.hid (below_next hb1' (by simp; omega) hb2)
    have hs2 := HB2.out.size
    have hl2 : w1.heap.size < w2.heap.size := by have := hb2.size; simp at this; omega
    have hg2 : g < w2.heap.size := by omega
    clear ho2 hb2 hb1' x0 x1 x2 HB1 hs1
    have hconv := Lib.hid (run_bytes_string ((HR.out.below HB2.out).below (below_new (.cells #[.int .i64 1, .string hd, .slice A2 0 c2] 84))))
    have HB3 := Lib.hid (HB2.out.alloc hs2 (.cells #[.int .i64 1, .string hd, .slice A2 0 c2] 84))
    by_cases hh : hd = strOfNums xs
    · subst hh
      have hq : ((strOfNums xs).toList == (strOfNums xs).toList) = true := by simp
      have hq' : ((strOfNums xs).toList != (strOfNums xs).toList) = false := by simp
      simp only [nT]
      go_wp2_with ((with_reducible show wpList _ _ _ (Oper.mk _ (Op.convert 22 9 _) _ _ _ _ :: _) _ _); refine wp_convert rfl _ _ _ rfl rfl hconv.out ?_)
      go_returns
      exact ⟨by simp [openT], HB3.out⟩
    · have hq : (hd.toList == (strOfNums xs).toList) = false := by rw [str_beq]; simp [hh]
      have HH := Lib.hid hh
      clear hh
      simp only [nT]
      go_wp2_with ((with_reducible show wpList _ _ _ (Oper.mk _ (Op.convert 22 9 _) _ _ _ _ :: _) _ _); refine wp_convert rfl _ _ _ rfl rfl hconv.out ?_)
      go_returns
      exact ⟨by simp [openT, HH.out], HB3.out⟩
  · have hk' : ¬ k0 = key := hk
    go_wp2_with fail
    go_returns
    exact ⟨by simp [openT, hk], HB1.out.alloc hs1 _⟩

theorem sealT_spec {T : List Nd} {k m : Int} {hd : ByteArray} {ns nm : Nd} (hl : hd.size ≤ 2048) (hT : T.length < 60000) (e1 : getT T k = some ns) (k1 : ns.kind ≠ 0) (e3 : getT T m = some nm) (k3 : nm.kind ≠ 0) :
    ∃ h0, getT (sealT T k hd m).1 (sealT T k hd m).2 = some ⟨10, ByteArray.empty, [k, h0, m]⟩ ∧ getT (sealT T k hd m).1 h0 = some (nT hd) := by
  obtain ⟨b1, R2, b2, b3⟩ := textT_spec (T := T) (b := hd) hl (by omega)
  have e1' : getT (textT T hd).1 k = some ns := by rw [b2]; exact getT_mono e1
  have e3' : getT (textT T hd).1 m = some nm := by rw [b2]; exact getT_mono e3
  obtain ⟨c1, R3, c2, c3⟩ := make6_spec (k := 10) (.inr rfl) e1' b1 e3' k1 rfl k3 (by rw [b2]; simp; omega)
  refine ⟨(textT T hd).2, c1, ?_⟩
  show getT (makeT _ 10 _).1 _ = _
  rw [c2]; exact getT_mono b1
theorem strOfNums_inj {xs ys : List Int} (hx : Byt xs) (hy : Byt ys) (h : strOfNums xs = strOfNums ys) : xs = ys := by
  have h1 : (xs.map fun n => UInt8.ofNat n.toNat) = ys.map fun n => UInt8.ofNat n.toNat := by
    have := congrArg (fun b : ByteArray => b.data.toList) h
    simpa [strOfNums] using this
  have hl : xs.length = ys.length := by simpa using congrArg List.length h1
  apply List.ext_getElem hl
  intro i h2 h3
  have h4 := congrArg (fun l => l[i]?) h1
  simp only [List.getElem?_map, List.getElem?_eq_getElem h2, List.getElem?_eq_getElem h3, Option.map_some, Option.some.injEq] at h4
  have a := hx _ (List.getElem_mem h2)
  have b := hy _ (List.getElem_mem h3)
  have h5 := congrArg UInt8.toNat h4
  simp at h5
  omega

set_option maxHeartbeats 1600000 in
set_option maxRecDepth 100000 in
theorem opens_walk (w : World) (A0 A1 A2 : Option Addr) (n0 n1 n2 c0 c1 c2 : Nat) (xs ys zs : List Int) (hr0 : Rds w.heap.size w .u8 A0 n0 c0 xs) (hr1 : Rds w.heap.size w .u8 A1 n1 c1 ys) (hr2 : Rds w.heap.size w .u8 A2 n2 c2 zs) (hx : Byt xs) (hy : Byt ys) :
    Calls Try.prog 14 #[.slice A0 n0 c0, .slice A1 n1 c1, .slice A2 n2 c2] w (AwakePost w) := by
  have H0 := Lib.hid hr0
  have H1 := Lib.hid hr1
  have H2 := Lib.hid hr2
  have l0 := Lib.hid hr0.len
  have l1 := Lib.hid hr1.len
  have l2 := Lib.hid hr2.len
  have HX := Lib.hid hx
  have HY := Lib.hid hy
  clear hr0 hr1 hr2 hx hy
  go_enter Try.func14, Try.ntmps14
  by_cases ha : 500 < n0
  · go_wp2_with fail
    go_ret
    exact ⟨rfl, Below.refl _ _⟩
  by_cases hb : 500 < n1
  · go_wp2_with fail
    go_ret
    exact ⟨rfl, Below.refl _ _⟩
  by_cases hc : 500 < n2
  · go_wp2_with fail
    go_ret
    exact ⟨rfl, Below.refl _ _⟩
  go_wp2_with fail
  refine (new_any w).mono ?_
  rintro e w1 ⟨tb, rfl, ht1, hb1⟩
  have HT1 := Lib.hid ht1
  have HB1 := Lib.hid hb1
  have HF1 := Lib.hid (Frm.of_below (C := tabO) (B := w.heap.size) hb1)
  clear ht1 hb1
  go_wp2_with fail
  refine (secret_any w1 HT1.out).mono ?_
  rintro e w2 p2
  obtain ⟨rfl, ht2, hf2⟩ := p2.intro aw1
  have HT2 := Lib.hid ht2
  have HF2 := Lib.hid (HF1.out.trans hf2)
  clear p2 ht2 hf2 HF1 HT1
  go_wp2_with fail
  refine (secret_any w2 HT2.out).mono ?_
  rintro e w3 p3
  obtain ⟨rfl, ht3, hf3⟩ := p3.intro aw2
  have HT3 := Lib.hid ht3
  have HF3 := Lib.hid (HF2.out.trans hf3)
  clear p3 ht3 hf3 HF2 HT2
  go_wp2_with fail
  refine (text_any A2 n2 c2 zs w3 HT3.out (H2.out.frm HF3.out.tab_sp)).mono ?_
  rintro e w4 p4
  have hsz : (strOfNums zs).size = n2 := by rw [strOfNums_size]; exact l2.out
  obtain ⟨⟨T4, m⟩, he4⟩ : ∃ r, textT [nS, nS] (strOfNums zs) = r := ⟨_, rfl⟩
  obtain ⟨t1, R4, hR4, hl4⟩ := textT_spec (T := [nS, nS]) (b := strOfNums zs) (by rw [hsz]; omega) (by simp)
  rw [he4] at t1 hR4
  simp only at t1 hR4
  obtain ⟨rfl, ht4, hf4⟩ := p4.intro he4
  have s1 : getT T4 1 = some nS := by rw [hR4]; exact getT_mono rfl
  have hL4 : T4.length ≤ 3 := by rw [hR4]; simp; omega
  have hm := getT_range t1
  have HT4 := Lib.hid ht4
  have HF4 := Lib.hid (HF3.out.trans hf4)
  have S1 := Lib.hid s1
  have TM := Lib.hid t1
  clear p4 ht4 hf4 he4 HT3 HF3 s1 t1 hR4 hsz
  go_wp2_with fail
  refine (seal_any 1 A0 n0 c0 xs m w4 HT4.out ⟨by omega, by omega⟩ ⟨by omega, by omega⟩ (H0.out.frm HF4.out.tab_sp)).mono ?_
  rintro e w5 p5
  have hsz : (strOfNums xs).size = n0 := by rw [strOfNums_size]; exact l0.out
  obtain ⟨h0, q1, q2⟩ := sealT_spec (T := T4) (k := 1) (m := m) (hd := strOfNums xs) (by rw [hsz]; omega) (by omega) S1.out (by decide) TM.out (by simp [nT])
  obtain ⟨⟨T5, s⟩, he5⟩ : ∃ r, sealT T4 1 (strOfNums xs) m = r := ⟨_, rfl⟩
  rw [he5] at q1 q2
  simp only at q1 q2
  obtain ⟨rfl, ht5, hf5⟩ := p5.intro he5
  have HT5 := Lib.hid ht5
  have HF5 := Lib.hid (HF4.out.trans hf5)
  have Q1 := Lib.hid q1
  have Q2 := Lib.hid q2
  clear p5 ht5 hf5 he5 HT4 HF4 q1 q2 hsz S1 TM
  go_wp2_with fail
  refine (open_any 1 s 1 h0 m _ A0 n0 c0 xs w5 HT5.out Q1.out Q2.out (H0.out.frm HF5.out.tab_sp)).mono ?_
  rintro e w6 ⟨rfl, hb6⟩
  rw [show openT 1 m 1 (strOfNums xs) (strOfNums xs) = (m, true) from if_pos ⟨rfl, rfl⟩]
  have HT6 := Lib.hid (HT5.out.below hb6)
  have HF6 := Lib.hid (HF5.out.trans (.of_below hb6))
  clear hb6 HT5 HF5
  go_wp2_with fail
  refine (open_any 2 s 1 h0 m _ A0 n0 c0 xs w6 HT6.out Q1.out Q2.out (H0.out.frm HF6.out.tab_sp)).mono ?_
  rintro e w7 ⟨rfl, hb7⟩
  rw [show openT 1 m 2 (strOfNums xs) (strOfNums xs) = (0, false) from if_neg (by simp)]
  have HT7 := Lib.hid (HT6.out.below hb7)
  have HF7 := Lib.hid (HF6.out.trans (.of_below hb7))
  clear hb7 HT6 HF6
  go_wp2_with fail
  refine (open_any 1 s 1 h0 m _ A1 n1 c1 ys w7 HT7.out Q1.out Q2.out (H1.out.frm HF7.out.tab_sp)).mono ?_
  rintro e w8 ⟨rfl, hb8⟩
  have HF8 := Lib.hid (HF7.out.trans (.of_below hb8))
  clear hb8 HT7 HF7
  by_cases hxy : xs = ys
  · rw [show openT 1 m 1 (strOfNums xs) (strOfNums ys) = (m, true) from if_pos ⟨rfl, by rw [hxy]⟩]
    have HXY := Lib.hid hxy
    clear hxy
    go_wp2_with fail
    refine (same_any04 A0 A1 n0 n1 c0 c1 xs ys w8 (H0.out.frm HF8.out.tab_sp) (H1.out.frm HF8.out.tab_sp)).mono ?_
    rintro e w9 ⟨rfl, hb9⟩
    rw [decide_eq_true HXY.out]
    have HF9 := Lib.hid (HF8.out.trans (.of_below hb9))
    clear hb9 HF8
    go_wp2_with fail
    refine (awake04 w9).mono ?_
    rintro e w10 ⟨rfl, hb10⟩
    have HF10 := Lib.hid (HF9.out.trans (.of_below hb10))
    clear hb10 HF9
    go_wp2_with fail
    go_ret
    exact ⟨rfl, HF10.out.below (Nat.le_refl _)⟩
  · have hno : ¬ strOfNums xs = strOfNums ys := fun h => hxy (strOfNums_inj HX.out HY.out h)
    rw [show openT 1 m 1 (strOfNums xs) (strOfNums ys) = (0, false) from if_neg fun h => hno h.2]
    have HXY := Lib.hid hxy
    clear hxy hno
    go_wp2_with fail
    refine (same_any04 A0 A1 n0 n1 c0 c1 xs ys w8 (H0.out.frm HF8.out.tab_sp) (H1.out.frm HF8.out.tab_sp)).mono ?_
    rintro e w9 ⟨rfl, hb9⟩
    rw [decide_eq_false HXY.out]
    have HF9 := Lib.hid (HF8.out.trans (.of_below hb9))
    clear hb9 HF8
    go_wp2_with fail
    refine (awake04 w9).mono ?_
    rintro e w10 ⟨rfl, hb10⟩
    have HF10 := Lib.hid (HF9.out.trans (.of_below hb10))
    clear hb10 HF9
    go_wp2_with fail
    go_ret
    exact ⟨rfl, HF10.out.below (Nat.le_refl _)⟩
theorem opens_row {A0 A1 A2 : Option Addr} {n0 n1 n2 c0 c1 c2 : Nat} (w : World) (h0 : ∃ xs, Rds w.heap.size w .u8 A0 n0 c0 xs ∧ Byt xs) (h1 : ∃ xs, Rds w.heap.size w .u8 A1 n1 c1 xs ∧ Byt xs) (h2 : ∃ xs, Rds w.heap.size w .u8 A2 n2 c2 xs ∧ Byt xs) :
    Calls Try.prog 14 #[.slice A0 n0 c0, .slice A1 n1 c1, .slice A2 n2 c2] w fun e w' => e = .returned (.bool true) ∧ Below w.heap.size w w' := by
  obtain ⟨xs, a, b⟩ := h0
  obtain ⟨ys, c, d⟩ := h1
  obtain ⟨zs, f, g⟩ := h2
  exact opens_walk w _ _ _ _ _ _ _ _ _ xs ys zs a c f b d
end Go.Proofs.Ytoelbhmgmlnieaa
