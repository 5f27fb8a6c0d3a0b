/- The walk of IdealDerives. No condition. -/
import Derived.Test.YtomopjpfdmpgpaaTabIdeal
import Derived.Test.YtomopjpfdmpgpaaIdeal5
set_option linter.unusedVariables false
set_option linter.unusedSimpArgs false
namespace Go.Proofs.Ytomopjpfdmpgpaa
open Go Go.RowKit Go.WideMaps

theorem getT_uniq {T : List Nd} (hw : WfT T) {h h' : Int} {n : Nd} (e : getT T h = some n) (e' : getT T h' = some n) (hk : n.kind ≠ 2) : h = h' := by
  have r := getT_range e
  have r' := getT_range e'
  obtain ⟨i, rfl⟩ : ∃ i : Nat, h = (i : Int) + 1 := ⟨(h - 1).toNat, by omega⟩
  obtain ⟨j, rfl⟩ : ∃ i : Nat, h' = (i : Int) + 1 := ⟨(h' - 1).toNat, by omega⟩
  rw [getT_nat] at e e'
  have a := lookT_of hw e hk
  have b := lookT_of hw e' hk
  rw [a] at b
  simp at b
  omega
theorem addT_spec {T : List Nd} {n : Nd} (hl : T.length < 65536) : getT (addT T n).1 (addT T n).2 = some n ∧ ∃ R, (addT T n).1 = T ++ R ∧ R.length ≤ 1 := by
  unfold addT
  split
  · rename_i i hi
    split at hi
    · cases hi
    · exact ⟨by rw [getT_nat]; exact lookT_some hi, [], by simp, by simp⟩
  · rw [if_neg (by omega)]
    exact ⟨by simp only [getT_nat]; simp, [n], rfl, by simp⟩
def nT (b : ByteArray) : Nd := ⟨1, b, []⟩
theorem textT_spec {T : List Nd} {b : ByteArray} (hb : b.size ≤ 2048) (hl : T.length < 65536) : getT (textT T b).1 (textT T b).2 = some (nT b) ∧ ∃ R, (textT T b).1 = T ++ R ∧ R.length ≤ 1 := by
  unfold textT
  rw [if_pos hb]
  exact addT_spec hl
theorem make6_spec {T : List Nd} {k s h c : Int} {ns nh nc : Nd} (hk : k = 6 ∨ k = 10) (e1 : getT T s = some ns) (e2 : getT T h = some nh) (e3 : getT T c = some nc) (k1 : ns.kind ≠ 0) (k2 : nh.kind = 1) (k3 : nc.kind ≠ 0) (hl : T.length < 65536) :
    getT (makeT T k [s, h, c]).1 (makeT T k [s, h, c]).2 = some ⟨k, ByteArray.empty, [s, h, c]⟩ ∧ ∃ R, (makeT T k [s, h, c]).1 = T ++ R ∧ R.length ≤ 1 := by
  have hm : [s, h, c].map (kindT T) = [ns.kind, 1, nc.kind] := by simp [kindT_get e1, kindT_get e2, kindT_get e3, k2]
  have hf : formedT k ([s, h, c].map (kindT T)) = true := by
    rw [hm]
    rcases hk with rfl | rfl <;> simp [formedT, nth]
  rw [make_yes (by rw [hm]; simp; omega) hf, show ownT T k [s, h, c] = [s, h, c] from if_neg (by omega)]
  exact addT_spec hl
structure DSpec (T : List Nd) (s : Int) (l : ByteArray) (c : Int) (T' : List Nd) (x : Int) (ha ec : Int) : Prop where
  node : getT T' x = some ⟨6, ByteArray.empty, [s, ha, ec]⟩
  text : getT T' ha = some (nT l)
  ctx0 : c = 0 → getT T' ec = some (nT ByteArray.empty)
  ctx1 : c ≠ 0 → ec = c
  sub : ∃ R, T' = T ++ R ∧ R.length ≤ 3
theorem deriveT_spec {T : List Nd} {s c : Int} {l : ByteArray} {ns nc : Nd} (hl : l.size ≤ 2048) (hT : T.length < 60000) (e1 : getT T s = some ns) (k1 : ns.kind ≠ 0) (e3 : c ≠ 0 → getT T c = some nc) (k3 : c ≠ 0 → nc.kind ≠ 0) : ∃ ha ec, DSpec T s l c (deriveT T s l c).1 (deriveT T s l c).2 ha ec := by
  have hctx : ∃ nc', getT (ctxT T c).1 (ctxT T c).2 = some nc' ∧ nc'.kind ≠ 0 ∧ (c = 0 → nc' = nT ByteArray.empty) ∧ (c ≠ 0 → (ctxT T c).2 = c) ∧ ∃ R, (ctxT T c).1 = T ++ R ∧ R.length ≤ 1 := by
    unfold ctxT
    by_cases hc : c = 0
    · rw [if_pos hc]
      obtain ⟨a, R, b⟩ := textT_spec (T := T) (b := ByteArray.empty) (by show ByteArray.empty.size ≤ 2048; decide) (by omega)
      exact ⟨_, a, by simp [nT], fun _ => rfl, fun h => absurd hc h, R, b⟩
    · rw [if_neg hc]
      exact ⟨nc, e3 hc, k3 hc, fun h => absurd h hc, fun _ => rfl, [], by simp, by simp⟩
  obtain ⟨nc', a1, a2, a3, a4, R1, a5, a6⟩ := hctx
  obtain ⟨b1, R2, b2, b3⟩ := textT_spec (T := (ctxT T c).1) (b := l) hl (by rw [a5]; simp; omega)
  have e1' : getT (textT (ctxT T c).1 l).1 s = some ns := by rw [b2, a5, List.append_assoc]; exact getT_mono e1
  have a1' : getT (textT (ctxT T c).1 l).1 (ctxT T c).2 = some nc' := by rw [b2]; exact getT_mono a1
  obtain ⟨c1, R3, c2, c3⟩ := make6_spec (k := 6) (.inl rfl) e1' b1 a1' k1 rfl a2 (by rw [b2, a5]; simp; omega)
  refine ⟨(textT (ctxT T c).1 l).2, (ctxT T c).2, c1, ?_, fun h => ?_, a4, R1 ++ R2 ++ R3, ?_, by simp; omega⟩
  · show getT (makeT _ 6 _).1 _ = _
    rw [c2]; exact getT_mono b1
  · show getT (makeT _ 6 _).1 _ = _
    rw [c2]; rw [← a3 h]; exact getT_mono a1'
  · show (makeT _ 6 _).1 = _
    rw [c2, b2, a5]; simp

theorem derive_step {B tb : Nat} {T : List Nd} {s c : Int} {l : ByteArray} {ns nc : Nd} (w : World) (ht : IsTab B w tb T) (hl : l.size ≤ 2048) (hT : T.length < 60000) (e1 : getT T s = some ns) (k1 : ns.kind ≠ 0) (e3 : c ≠ 0 → getT T c = some nc) (k3 : c ≠ 0 → nc.kind ≠ 0) :
    Calls Try.prog 68 #[.pointer (some ⟨tb, 0, none⟩), .int .i64 s, .string l, .int .i64 c] w fun e w' => ∃ T' x ha ec R, e = .returned (.int .i64 x) ∧ IsTab B w' tb T' ∧ Frm tabO B w w' ∧ DSpec T s l c T' x ha ec ∧ T' = T ++ R ∧ R.length ≤ 3 := by
  have hs := getT_range e1
  have hc : BigI c := by
    by_cases h : c = 0
    · subst h; exact ⟨by omega, by omega⟩
    · have := getT_range (e3 h); exact ⟨by omega, by omega⟩
  refine (derive_any s l c w ht ⟨by omega, by omega⟩ hc (by omega)).mono ?_
  rintro e w' ⟨h1, h2, h3⟩
  obtain ⟨ha, ec, D⟩ := deriveT_spec (nc := nc) hl hT e1 k1 e3 k3
  obtain ⟨R, hR⟩ := D.sub
  exact ⟨_, _, ha, ec, R, h1, h2, h3, D, hR.1, hR.2⟩

theorem str_beq (a b : ByteArray) : (a.toList == b.toList) = decide (a = b) := by
  rw [ByteArray.toList_eq, ByteArray.toList_eq]
  by_cases h : a = b
  · subst h; simp
  · rw [decide_eq_false h]
    cases hq : (a.data.toList == b.data.toList) with
    | false => rfl
    | true =>
      exfalso; apply h
      have := eq_of_beq hq
      cases a; cases b; simp at this; simp [this]
theorem getT_ne {T : List Nd} {h h' : Int} {n n' : Nd} (e : getT T h = some n) (e' : getT T h' = some n') (hn : n ≠ n') : h ≠ h' := by
  rintro rfl
  rw [e] at e'
  exact hn (Option.some.inj e')
theorem derives_facts {T3 T4 T5 T6 T7 R5 R6 R7 : List Nd} {a b : ByteArray} {x y z v hx hy hz hv ex ey ez ev : Int} (D4 : DSpec T3 1 a 0 T4 x hx ex) (D5 : DSpec T4 1 b 0 T5 y hy ey) (D6 : DSpec T5 2 a 0 T6 z hz ez) (D7 : DSpec T6 1 a 2 T7 v hv ev)
    (r5 : T5 = T4 ++ R5) (r6 : T6 = T5 ++ R6) (r7 : T7 = T6 ++ R7) (hw : WfT T7) (s2 : getT T7 2 = some nS) :
    (x == y) = (a.toList == b.toList) ∧ ¬x = z ∧ ¬x = v ∧ ¬x = 0 ∧ getT T7 x = some ⟨6, ByteArray.empty, [1, hx, ex]⟩ ∧ getT T7 hx = some (nT a) ∧ getT T7 ex = some (nT ByteArray.empty) := by
  have up4 : ∀ {h : Int} {n : Nd}, getT T4 h = some n → getT T7 h = some n := fun e => by rw [r7, r6, r5]; exact getT_mono (getT_mono (getT_mono e))
  have up5 : ∀ {h : Int} {n : Nd}, getT T5 h = some n → getT T7 h = some n := fun e => by rw [r7, r6]; exact getT_mono (getT_mono e)
  have up6 : ∀ {h : Int} {n : Nd}, getT T6 h = some n → getT T7 h = some n := fun e => by rw [r7]; exact getT_mono e
  have x1 := up4 D4.node
  have x2 := up4 D4.text
  have x3 := up4 (D4.ctx0 rfl)
  have y1 := up5 D5.node
  have y2 := up5 D5.text
  have y3 := up5 (D5.ctx0 rfl)
  have z1 := up6 D6.node
  have v1 := D7.node
  have v3 := D7.ctx1 (by decide)
  obtain rfl : ey = ex := getT_uniq hw y3 x3 (by simp [nT])
  refine ⟨?_, ?_, ?_, ?_, x1, x2, x3⟩
  · rw [str_beq]
    by_cases h : a = b
    · subst h
      obtain rfl : hy = hx := getT_uniq hw y2 x2 (by simp [nT])
      obtain rfl : x = y := getT_uniq hw x1 y1 (by simp)
      simp
    · have : x ≠ y := getT_ne x1 y1 (by
        have := getT_ne x2 y2 (by simp [nT, h])
        simp [this])
      simp [h, this]
  · exact getT_ne x1 z1 (by simp)
  · have : ey ≠ 2 := getT_ne x3 s2 (by simp [nT, nS])
    exact getT_ne x1 v1 (by simp [v3, this])
  · have := getT_range x1
    omega

end Go.Proofs.Ytomopjpfdmpgpaa
