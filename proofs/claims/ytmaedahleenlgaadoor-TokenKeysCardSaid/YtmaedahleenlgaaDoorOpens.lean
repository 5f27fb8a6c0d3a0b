/- The walk of IdealOpens. No condition. -/
import Derived.Test.YtmaedahleenlgaaDoorDerives
import Derived.Test.YtmaedahleenlgaaDoorLook
set_option linter.unusedVariables false
set_option linter.unusedSimpArgs false
namespace Go.Proofs.YtmaedahleenlgaaDoor
open Go Go.RowKit Go.WideMaps

set_option maxHeartbeats 800000 in
set_option maxRecDepth 100000 in
theorem seal_any {B B' tb : Nat} {T : List Nd} (k : Int) (A : Option Addr) (n c : Nat) (xs : List Int) (m : Int) (w : World) (ht : IsTab B w tb T) (hk : BigI k) (hm : BigI m) (hr : Rds B' w .u8 A n c xs) :
    Calls Tryd.prog 21 #[.pointer (some ⟨tb, 0, none⟩), .int .i64 k, .slice A n c, .int .i64 m] w (TabPost B tb w (sealT T k (strOfNums xs) m)) := by
  have HT := Lib.hid ht
  have HR := Lib.hid hr
  clear ht hr
  obtain ⟨k0, k1⟩ := hk
  obtain ⟨m0, m1⟩ := hm
  go_enter Tryd.func21, Tryd.ntmps21
  go_wp2_with fail
  refine (text_any A n c xs w HT.out HR.out).mono ?_
  rintro e w1 p1
  obtain ⟨⟨T1, h1⟩, he1⟩ : ∃ r, textT T (strOfNums xs) = r := ⟨_, rfl⟩
  obtain ⟨rfl, ht1, hf1⟩ := p1.intro he1
  have hr1 := textT_range (b := strOfNums xs) HT.out.1.len
  rw [he1] at hr1
  simp only at hr1
  have HT1 := Lib.hid ht1
  have HF1 := Lib.hid hf1
  have HE1 := Lib.hid he1
  clear p1 he1 ht1 hf1
  go_wp2_with fail
  refine (make_lit 10 [k, h1, m] w1 HT1.out rfl (by simp [I64]; omega) (by simp) _ rfl ?_ 3 rfl).mono ?_
  · decide
  rintro e w4 p4
  have P4 := Lib.hid (tabPost_next HF1.out p4)
  obtain ⟨rfl, -, -⟩ := p4
  go_wp2_with fail
  go_ret
  have := P4.out
  unfold sealT
  rw [HE1.out]
  exact this

def openT (k0 m0 key : Int) (hd s : ByteArray) : Int × Bool := if k0 = key ∧ hd = s then (m0, true) else (0, false)
def OpenPost (r : Int × Bool) (w : World) (e : Ending) (w' : World) : Prop := e = .returned (.tuple #[.int .i64 r.1, .bool r.2]) ∧ Below w.heap.size w w'

set_option maxHeartbeats 1600000 in
set_option maxRecDepth 100000 in
theorem open_any {B B' tb : Nat} {T : List Nd} (key sealed k0 h0 m0 : Int) (hd : ByteArray) (A : Option Addr) (n c : Nat) (xs : List Int) (w : World) (ht : IsTab B w tb T) (e1 : getT T sealed = some ⟨10, ByteArray.empty, [k0, h0, m0]⟩) (e2 : getT T h0 = some (nT hd)) (hr : Rds B' w .u8 A n c xs) :
    Calls Tryd.prog 15 #[.pointer (some ⟨tb, 0, none⟩), .int .i64 key, .slice A n c, .int .i64 sealed] w (OpenPost (openT k0 m0 key hd (strOfNums xs)) w) := by
  have HT := Lib.hid ht
  have HR := Lib.hid hr
  have E1 := Lib.hid e1
  have E2 := Lib.hid e2
  clear ht hr e1 e2
  go_enter Tryd.func15, Tryd.ntmps15
  go_wp2_with fail
  refine (look_node sealed _ w HT.out E1.out).mono ?_
  rintro e w1 ⟨A1, c1, rfl, ho1, hb1⟩
  obtain ⟨g, cap, q1, q2, q3, q4, q5, q6, q7⟩ := ho1.form (by simp)
  simp only [List.length_cons, List.length_nil, Value.slice.injEq] at q1 q5
  obtain ⟨rfl, -, rfl⟩ := q1
  have x0 := q5 0 (by omega)
  have x1 := q5 1 (by omega)
  have x2 := q5 2 (by omega)
  simp only [nth, List.getD_cons_zero, List.getD_cons_succ] at x0 x1 x2
  have HB1 := Lib.hid hb1
  have hs1 := hb1.size
  clear ho1 hb1 q4 q5 q6 q7
  by_cases hk : k0 = key
  · subst hk
    go_wp2_with fail
    have hb1' : Below w.heap.size w (w1.alloc (.cells #[.int .i64 10, .string ByteArray.empty, .slice (some ⟨g, 0, none⟩) 3 c1] 40)) := HB1.out.alloc hs1 _
    refine (look_node h0 _ _ (HT.out.below hb1') E2.out).mono ?_
    rintro e w2 ⟨A2, c2, rfl, ho2, hb2⟩
    have y2 := cell_later hb2 (a := ⟨w1.heap.size, 2, none⟩) (v := .slice (some ⟨g, 0, none⟩) 3 c1) (by simp [go_sem])
    have z2 := cell_later hb2 (a := ⟨g, 2, none⟩) (v := .int .i64 m0) (by rw [World.cell?_alloc_lt _ _ _ q3]; exact x2)
    have HB2 := Lib.hid (below_next hb1' (by simp; omega) hb2)
    have hs2 := HB2.out.size
    have hl2 : w1.heap.size < w2.heap.size := by have := hb2.size; simp at this; omega
    have hg2 : g < w2.heap.size := by omega
    clear ho2 hb2 hb1' x0 x1 x2 HB1 hs1
    have hconv := Lib.hid (run_bytes_string ((HR.out.below HB2.out).below (below_new (.cells #[.int .i64 1, .string hd, .slice A2 0 c2] 40))))
    have HB3 := Lib.hid (HB2.out.alloc hs2 (.cells #[.int .i64 1, .string hd, .slice A2 0 c2] 40))
    by_cases hh : hd = strOfNums xs
    · subst hh
      have hq : ((strOfNums xs).toList == (strOfNums xs).toList) = true := by simp
      have hq' : ((strOfNums xs).toList != (strOfNums xs).toList) = false := by simp
      simp only [nT]
      go_wp2_with ((with_reducible show wpList _ _ _ (Oper.mk _ (Op.convert 22 9 _) _ _ _ _ :: _) _ _); refine wp_convert rfl _ _ _ rfl rfl hconv.out ?_)
      go_returns
      exact ⟨by simp [openT], HB3.out⟩
    · have hq : (hd.toList == (strOfNums xs).toList) = false := by rw [str_beq]; simp [hh]
      have HH := Lib.hid hh
      clear hh
      simp only [nT]
      go_wp2_with ((with_reducible show wpList _ _ _ (Oper.mk _ (Op.convert 22 9 _) _ _ _ _ :: _) _ _); refine wp_convert rfl _ _ _ rfl rfl hconv.out ?_)
      go_returns
      exact ⟨by simp [openT, HH.out], HB3.out⟩
  · have hk' : ¬ k0 = key := hk
    go_wp2_with fail
    go_returns
    exact ⟨by simp [openT, hk], HB1.out.alloc hs1 _⟩

theorem sealT_spec {T : List Nd} {k m : Int} {hd : ByteArray} {ns nm : Nd} (hl : hd.size ≤ 2048) (hT : T.length < 60000) (e1 : getT T k = some ns) (k1 : ns.kind ≠ 0) (e3 : getT T m = some nm) (k3 : nm.kind ≠ 0) :
    ∃ h0, getT (sealT T k hd m).1 (sealT T k hd m).2 = some ⟨10, ByteArray.empty, [k, h0, m]⟩ ∧ getT (sealT T k hd m).1 h0 = some (nT hd) := by
  obtain ⟨b1, R2, b2, b3⟩ := textT_spec (T := T) (b := hd) hl (by omega)
  have e1' : getT (textT T hd).1 k = some ns := by rw [b2]; exact getT_mono e1
  have e3' : getT (textT T hd).1 m = some nm := by rw [b2]; exact getT_mono e3
  obtain ⟨c1, R3, c2, c3⟩ := make6_spec (k := 10) (.inr rfl) e1' b1 e3' k1 rfl k3 (by rw [b2]; simp; omega)
  refine ⟨(textT T hd).2, c1, ?_⟩
  show getT (makeT _ 10 _).1 _ = _
  rw [c2]; exact getT_mono b1
end Go.Proofs.YtmaedahleenlgaaDoor
