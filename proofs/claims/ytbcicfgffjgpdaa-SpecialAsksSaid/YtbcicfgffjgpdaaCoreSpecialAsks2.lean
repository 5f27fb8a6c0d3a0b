/- Own texts behind the statement SpecialAsks, one behind the other (part 2 of 2). Each bears its own remark. -/
import Derived.Deep.RegionHeld3
import Derived.Lib.SlBytesConst
import Derived.Test.YtbcicfgffjgpdaaWWords
import Derived.Test.YtbcicfgffjgpdaaPSpecialUnlikex8
import Derived.Test.YtbcicfgffjgpdaaCoreSpecialAsks1
/- The walk of IdealDerives. No condition. -/
set_option linter.unusedVariables false
set_option linter.unusedSimpArgs false
namespace Go.Proofs.Ytbcicfgffjgpdaa
open Go Go.RowKit Go.WideMaps

theorem getT_uniq {T : List Nd} (hw : WfT T) {h h' : Int} {n : Nd} (e : getT T h = some n) (e' : getT T h' = some n) (hk : n.kind ≠ 2) : h = h' := by
  have r := getT_range e
  have r' := getT_range e'
  obtain ⟨i, rfl⟩ : ∃ i : Nat, h = (i : Int) + 1 := ⟨(h - 1).toNat, by omega⟩
  obtain ⟨j, rfl⟩ : ∃ i : Nat, h' = (i : Int) + 1 := ⟨(h' - 1).toNat, by omega⟩
  rw [getT_nat] at e e'
  have a := lookT_of hw e hk
  have b := lookT_of hw e' hk
  rw [a] at b
  simp at b
  omega
theorem addT_spec {T : List Nd} {n : Nd} (hl : T.length < 65536) : getT (addT T n).1 (addT T n).2 = some n ∧ ∃ R, (addT T n).1 = T ++ R ∧ R.length ≤ 1 := by
  unfold addT
  split
  · rename_i i hi
    split at hi
    · cases hi
    · exact ⟨by rw [getT_nat]; exact lookT_some hi, [], by simp, by simp⟩
  · rw [if_neg (by omega)]
    exact ⟨by simp only [getT_nat]; simp, [n], rfl, by simp⟩
def nT (b : ByteArray) : Nd := ⟨1, b, []⟩
theorem textT_spec {T : List Nd} {b : ByteArray} (hb : b.size ≤ 2048) (hl : T.length < 65536) : getT (textT T b).1 (textT T b).2 = some (nT b) ∧ ∃ R, (textT T b).1 = T ++ R ∧ R.length ≤ 1 := by
  unfold textT
  rw [if_pos hb]
  exact addT_spec hl
theorem make6_spec {T : List Nd} {k s h c : Int} {ns nh nc : Nd} (hk : k = 6 ∨ k = 10) (e1 : getT T s = some ns) (e2 : getT T h = some nh) (e3 : getT T c = some nc) (k1 : ns.kind ≠ 0) (k2 : nh.kind = 1) (k3 : nc.kind ≠ 0) (hl : T.length < 65536) :
    getT (makeT T k [s, h, c]).1 (makeT T k [s, h, c]).2 = some ⟨k, ByteArray.empty, [s, h, c]⟩ ∧ ∃ R, (makeT T k [s, h, c]).1 = T ++ R ∧ R.length ≤ 1 := by
  have hm : [s, h, c].map (kindT T) = [ns.kind, 1, nc.kind] := by simp [kindT_get e1, kindT_get e2, kindT_get e3, k2]
  have hf : formedT k ([s, h, c].map (kindT T)) = true := by
    rw [hm]
    rcases hk with rfl | rfl <;> simp [formedT, nth]
  rw [make_yes (by rw [hm]; simp; omega) hf, show ownT T k [s, h, c] = [s, h, c] from if_neg (by omega)]
  exact addT_spec hl
structure DSpec (T : List Nd) (s : Int) (l : ByteArray) (c : Int) (T' : List Nd) (x : Int) (ha ec : Int) : Prop where
  node : getT T' x = some ⟨6, ByteArray.empty, [s, ha, ec]⟩
  text : getT T' ha = some (nT l)
  ctx0 : c = 0 → getT T' ec = some (nT ByteArray.empty)
  ctx1 : c ≠ 0 → ec = c
  sub : ∃ R, T' = T ++ R ∧ R.length ≤ 3
theorem deriveT_spec {T : List Nd} {s c : Int} {l : ByteArray} {ns nc : Nd} (hl : l.size ≤ 2048) (hT : T.length < 60000) (e1 : getT T s = some ns) (k1 : ns.kind ≠ 0) (e3 : c ≠ 0 → getT T c = some nc) (k3 : c ≠ 0 → nc.kind ≠ 0) : ∃ ha ec, DSpec T s l c (deriveT T s l c).1 (deriveT T s l c).2 ha ec := by
  have hctx : ∃ nc', getT (ctxT T c).1 (ctxT T c).2 = some nc' ∧ nc'.kind ≠ 0 ∧ (c = 0 → nc' = nT ByteArray.empty) ∧ (c ≠ 0 → (ctxT T c).2 = c) ∧ ∃ R, (ctxT T c).1 = T ++ R ∧ R.length ≤ 1 := by
    unfold ctxT
    by_cases hc : c = 0
    · rw [if_pos hc]
      obtain ⟨a, R, b⟩ := textT_spec (T := T) (b := ByteArray.empty) (by show ByteArray.empty.size ≤ 2048; decide) (by omega)
      exact ⟨_, a, by simp [nT], fun _ => rfl, fun h => absurd hc h, R, b⟩
    · rw [if_neg hc]
      exact ⟨nc, e3 hc, k3 hc, fun h => absurd h hc, fun _ => rfl, [], by simp, by simp⟩
  obtain ⟨nc', a1, a2, a3, a4, R1, a5, a6⟩ := hctx
  obtain ⟨b1, R2, b2, b3⟩ := textT_spec (T := (ctxT T c).1) (b := l) hl (by rw [a5]; simp; omega)
  have e1' : getT (textT (ctxT T c).1 l).1 s = some ns := by rw [b2, a5, List.append_assoc]; exact getT_mono e1
  have a1' : getT (textT (ctxT T c).1 l).1 (ctxT T c).2 = some nc' := by rw [b2]; exact getT_mono a1
  obtain ⟨c1, R3, c2, c3⟩ := make6_spec (k := 6) (.inl rfl) e1' b1 a1' k1 rfl a2 (by rw [b2, a5]; simp; omega)
  refine ⟨(textT (ctxT T c).1 l).2, (ctxT T c).2, c1, ?_, fun h => ?_, a4, R1 ++ R2 ++ R3, ?_, by simp; omega⟩
  · show getT (makeT _ 6 _).1 _ = _
    rw [c2]; exact getT_mono b1
  · show getT (makeT _ 6 _).1 _ = _
    rw [c2]; rw [← a3 h]; exact getT_mono a1'
  · show (makeT _ 6 _).1 = _
    rw [c2, b2, a5]; simp

theorem derive_step {B tb : Nat} {T : List Nd} {s c : Int} {l : ByteArray} {ns nc : Nd} (w : World) (ht : IsTab B w tb T) (hl : l.size ≤ 2048) (hT : T.length < 60000) (e1 : getT T s = some ns) (k1 : ns.kind ≠ 0) (e3 : c ≠ 0 → getT T c = some nc) (k3 : c ≠ 0 → nc.kind ≠ 0) :
    Calls Try.prog 52 #[.pointer (some ⟨tb, 0, none⟩), .int .i64 s, .string l, .int .i64 c] w fun e w' => ∃ T' x ha ec R, e = .returned (.int .i64 x) ∧ IsTab B w' tb T' ∧ Frm tabO B w w' ∧ DSpec T s l c T' x ha ec ∧ T' = T ++ R ∧ R.length ≤ 3 := by
  have hs := getT_range e1
  have hc : BigI c := by
    by_cases h : c = 0
    · subst h; exact ⟨by omega, by omega⟩
    · have := getT_range (e3 h); exact ⟨by omega, by omega⟩
  refine (derive_any s l c w ht ⟨by omega, by omega⟩ hc (by omega)).mono ?_
  rintro e w' ⟨h1, h2, h3⟩
  obtain ⟨ha, ec, D⟩ := deriveT_spec (nc := nc) hl hT e1 k1 e3 k3
  obtain ⟨R, hR⟩ := D.sub
  exact ⟨_, _, ha, ec, R, h1, h2, h3, D, hR.1, hR.2⟩

theorem str_beq (a b : ByteArray) : (a.toList == b.toList) = decide (a = b) := by
  rw [ByteArray.toList_eq, ByteArray.toList_eq]
  by_cases h : a = b
  · subst h; simp
  · rw [decide_eq_false h]
    cases hq : (a.data.toList == b.data.toList) with
    | false => rfl
    | true =>
      exfalso; apply h
      have := eq_of_beq hq
      cases a; cases b; simp at this; simp [this]
theorem getT_ne {T : List Nd} {h h' : Int} {n n' : Nd} (e : getT T h = some n) (e' : getT T h' = some n') (hn : n ≠ n') : h ≠ h' := by
  rintro rfl
  rw [e] at e'
  exact hn (Option.some.inj e')
theorem derives_facts {T3 T4 T5 T6 T7 R5 R6 R7 : List Nd} {a b : ByteArray} {x y z v hx hy hz hv ex ey ez ev : Int} (D4 : DSpec T3 1 a 0 T4 x hx ex) (D5 : DSpec T4 1 b 0 T5 y hy ey) (D6 : DSpec T5 2 a 0 T6 z hz ez) (D7 : DSpec T6 1 a 2 T7 v hv ev)
    (r5 : T5 = T4 ++ R5) (r6 : T6 = T5 ++ R6) (r7 : T7 = T6 ++ R7) (hw : WfT T7) (s2 : getT T7 2 = some nS) :
    (x == y) = (a.toList == b.toList) ∧ ¬x = z ∧ ¬x = v ∧ ¬x = 0 ∧ getT T7 x = some ⟨6, ByteArray.empty, [1, hx, ex]⟩ ∧ getT T7 hx = some (nT a) ∧ getT T7 ex = some (nT ByteArray.empty) := by
  have up4 : ∀ {h : Int} {n : Nd}, getT T4 h = some n → getT T7 h = some n := fun e => by rw [r7, r6, r5]; exact getT_mono (getT_mono (getT_mono e))
  have up5 : ∀ {h : Int} {n : Nd}, getT T5 h = some n → getT T7 h = some n := fun e => by rw [r7, r6]; exact getT_mono (getT_mono e)
  have up6 : ∀ {h : Int} {n : Nd}, getT T6 h = some n → getT T7 h = some n := fun e => by rw [r7]; exact getT_mono e
  have x1 := up4 D4.node
  have x2 := up4 D4.text
  have x3 := up4 (D4.ctx0 rfl)
  have y1 := up5 D5.node
  have y2 := up5 D5.text
  have y3 := up5 (D5.ctx0 rfl)
  have z1 := up6 D6.node
  have v1 := D7.node
  have v3 := D7.ctx1 (by decide)
  obtain rfl : ey = ex := getT_uniq hw y3 x3 (by simp [nT])
  refine ⟨?_, ?_, ?_, ?_, x1, x2, x3⟩
  · rw [str_beq]
    by_cases h : a = b
    · subst h
      obtain rfl : hy = hx := getT_uniq hw y2 x2 (by simp [nT])
      obtain rfl : x = y := getT_uniq hw x1 y1 (by simp)
      simp
    · have : x ≠ y := getT_ne x1 y1 (by
        have := getT_ne x2 y2 (by simp [nT, h])
        simp [this])
      simp [h, this]
  · exact getT_ne x1 z1 (by simp)
  · have : ey ≠ 2 := getT_ne x3 s2 (by simp [nT, nS])
    exact getT_ne x1 v1 (by simp [v3, this])
  · have := getT_range x1
    omega

end Go.Proofs.Ytbcicfgffjgpdaa

/- Plain: what is made twice has one number. No condition. -/
set_option linter.unusedVariables false
set_option linter.unusedSimpArgs false
namespace Go.Proofs.Ytbcicfgffjgpdaa
open Go Go.RowKit

theorem addT_again {T T' : List Nd} {n : Nd} {h : Int} (hw : WfT T') (e : addT T n = (T', h)) (h0 : h ≠ 0) (hk : n.kind ≠ 2) : addT T' n = (T', h) := by
  unfold addT at e
  rw [if_neg hk] at e
  split at e
  · rename_i i hi
    simp only [Prod.mk.injEq] at e
    obtain ⟨rfl, rfl⟩ := e
    unfold addT
    rw [if_neg hk, hi]
  · split at e
    · simp only [Prod.mk.injEq] at e
      exact absurd e.2.symm h0
    · simp only [Prod.mk.injEq] at e
      obtain ⟨rfl, rfl⟩ := e
      unfold addT
      rw [if_neg hk, lookT_of (i := T.length) hw (by simp) hk]
theorem addT_ext (T : List Nd) (n : Nd) : ∃ R, (addT T n).1 = T ++ R := by
  unfold addT
  split
  · exact ⟨[], by simp⟩
  · split
    · exact ⟨[], by simp⟩
    · exact ⟨[n], rfl⟩
theorem textT_again {T T' : List Nd} {b : ByteArray} {h : Int} (hw : WfT T') (e : textT T b = (T', h)) (h0 : h ≠ 0) : textT T' b = (T', h) := by
  unfold textT at e ⊢
  split at e
  · rename_i hb
    rw [if_pos hb]
    exact addT_again hw e h0 (by show (1 : Int) ≠ 2; decide)
  · simp only [Prod.mk.injEq] at e
    exact absurd e.2.symm h0
theorem makeT_again {T T' : List Nd} {k : Int} {p : List Int} {h : Int} (hT : WfT T) (hw : WfT T') (e : makeT T k p = (T', h)) (h0 : h ≠ 0) : makeT T' k p = (T', h) := by
  by_cases c1 : (0 : Int) ∈ p.map (kindT T)
  · rw [make_no1 c1] at e
    simp only [Prod.mk.injEq] at e
    exact absurd e.2.symm h0
  by_cases c2 : formedT k (p.map (kindT T)) = false
  · rw [make_no2 c2] at e
    simp only [Prod.mk.injEq] at e
    exact absurd e.2.symm h0
  have c2 : formedT k (p.map (kindT T)) = true := by simpa using c2
  rw [make_yes c1 c2] at e
  obtain ⟨R, hR⟩ := addT_ext T ⟨k, ByteArray.empty, ownT T k p⟩
  rw [e] at hR
  simp only at hR
  have hkm : p.map (kindT T') = p.map (kindT T) := by
    apply List.map_congr_left
    intro x hx
    rw [hR]
    exact kindT_mono rfl fun h => c1 (List.mem_map.2 ⟨x, hx, h⟩)
  have how : ownT T' k p = ownT T k p := by
    unfold ownT
    split
    · rename_i h8
      subst h8
      have h3 := formed8_len c2
      have hl : p.length = 2 := by simpa using h3.1
      have h7 : kindT T (nth p 1) = 7 := by
        have := h3.2.2
        rwa [nth_map (by omega)] at this
      obtain ⟨q, hq, _⟩ := public_of hT h7
      rw [hq, hR, getT_mono hq]
    · rfl
  rw [make_yes (by rw [hkm]; exact c1) (by rw [hkm]; exact c2), how]
  have hk := formed_kind c2
  exact addT_again hw e h0 (by show k ≠ 2; omega)
/-- What a step does with a table. -/
def stepT (T : List Nd) (kind : Int) (text : ByteArray) (parts : List Int) : List Nd × Int :=
  if kind = 1 then textT T text else if kind = 2 then secretT T else makeT T kind parts
theorem textT_len {T : List Nd} {b : ByteArray} : (textT T b).1.length ≤ T.length + 1 := by
  unfold textT addT
  split
  · split
    · simp
    · split <;> simp
  · simp
theorem parts_less {T : List Nd} (hw : WfT T) {h : Int} (p : Int) (hp : p ∈ (nodeT T h).parts) : 1 ≤ p ∧ p < h := by
  unfold nodeT at hp
  cases e : getT T h with
  | none => rw [e] at hp; simp at hp
  | some n =>
    rw [e] at hp
    have hr := getT_range e
    have := (hw.get e).range p (by simpa using hp)
    omega
theorem addT_range {T : List Nd} {n : Nd} (h : T.length ≤ 65536) : 0 ≤ (addT T n).2 ∧ (addT T n).2 ≤ 65536 := by
  unfold addT
  split
  · rename_i i hi
    split at hi
    · cases hi
    · have := (List.getElem?_eq_some_iff.1 (lookT_some hi)).1
      show 0 ≤ (i : Int) + 1 ∧ (i : Int) + 1 ≤ 65536
      omega
  · split
    · show (0 : Int) ≤ 0 ∧ (0 : Int) ≤ 65536
      omega
    · show 0 ≤ (T.length : Int) + 1 ∧ (T.length : Int) + 1 ≤ 65536
      omega
theorem makeT_range {T : List Nd} {k : Int} {p : List Int} (h : T.length ≤ 65536) : 0 ≤ (makeT T k p).2 ∧ (makeT T k p).2 ≤ 65536 := by
  unfold makeT
  split
  · show (0 : Int) ≤ 0 ∧ (0 : Int) ≤ 65536
    omega
  · exact addT_range h
theorem stepT_range {T : List Nd} {kind : Int} {text : ByteArray} {parts : List Int} (h : T.length ≤ 65536) : 0 ≤ (stepT T kind text parts).2 ∧ (stepT T kind text parts).2 ≤ 65536 := by
  unfold stepT
  split
  · exact textT_range h
  · split
    · exact addT_range h
    · exact makeT_range h
end Go.Proofs.Ytbcicfgffjgpdaa

/- Plain: what the terms of layers 4 and 15 are made of. No condition. -/
set_option linter.unusedVariables false
set_option linter.unusedSimpArgs false
namespace Go.Proofs.Ytbcicfgffjgpdaa
open Go Go.RowKit

/-- T' holds all of T, and at most n more. -/
def Ext (n : Nat) (T T' : List Nd) : Prop := ∃ R, T' = T ++ R ∧ R.length ≤ n
theorem Ext.refl (T : List Nd) : Ext 0 T T := ⟨[], by simp, by simp⟩
theorem Ext.trans {n m : Nat} {T T' T'' : List Nd} (h : Ext n T T') (k : Ext m T' T'') : Ext (n + m) T T'' := by
  obtain ⟨R, rfl, h2⟩ := h
  obtain ⟨S, rfl, k2⟩ := k
  exact ⟨R ++ S, by simp, by simp; omega⟩
theorem Ext.mono {n m : Nat} {T T' : List Nd} (h : Ext n T T') (hm : n ≤ m) : Ext m T T' := by
  obtain ⟨R, h1, h2⟩ := h
  exact ⟨R, h1, by omega⟩
theorem Ext.get {n : Nat} {T T' : List Nd} (h : Ext n T T') {x : Int} {m : Nd} (e : getT T x = some m) : getT T' x = some m := by
  obtain ⟨R, rfl, _⟩ := h
  exact getT_mono e
theorem Ext.len {n : Nat} {T T' : List Nd} (h : Ext n T T') : T'.length ≤ T.length + n := by
  obtain ⟨R, rfl, h2⟩ := h
  simp; omega
theorem Ext.le {n : Nat} {T T' : List Nd} (h : Ext n T T') : T.length ≤ T'.length := by
  obtain ⟨R, rfl, h2⟩ := h
  simp
/-- A number that a term has. -/
def In (T : List Nd) (x : Int) : Prop := ∃ n, getT T x = some n
theorem In.ext {n : Nat} {T T' : List Nd} {x : Int} (h : In T x) (e : Ext n T T') : In T' x := by
  obtain ⟨m, hm⟩ := h
  exact ⟨m, e.get hm⟩
theorem In.range {T : List Nd} {x : Int} (h : In T x) : 1 ≤ x ∧ x ≤ T.length := by
  obtain ⟨m, hm⟩ := h
  exact getT_range hm
theorem In.kind {T : List Nd} (hw : WfT T) {x : Int} (h : In T x) : kindT T x ≠ 0 := by
  obtain ⟨m, hm⟩ := h
  rw [kindT_get hm]
  have := (hw.get hm).kind
  omega
theorem In.of {T : List Nd} {x : Int} {m : Nd} (h : getT T x = some m) : In T x := ⟨m, h⟩
theorem kind_out {T : List Nd} {x : Int} (h : ¬ In T x) : kindT T x = 0 := by
  unfold kindT
  cases e : getT T x with
  | none => rfl
  | some n => exact absurd ⟨n, e⟩ h
theorem out_of {T : List Nd} {x : Int} (h : ¬(1 ≤ x ∧ x ≤ T.length)) : ¬ In T x := fun k => h k.range

theorem addT_ext1 (T : List Nd) (n : Nd) : Ext 1 T (addT T n).1 := by
  unfold addT
  split
  · exact ⟨[], by simp, by simp⟩
  · split
    · exact ⟨[], by simp, by simp⟩
    · exact ⟨[n], rfl, by simp⟩
theorem textT_ext (T : List Nd) (b : ByteArray) : Ext 1 T (textT T b).1 := by
  unfold textT
  split
  · exact addT_ext1 _ _
  · exact (Ext.refl _).mono (by omega)
theorem makeT_ext (T : List Nd) (k : Int) (p : List Int) : Ext 1 T (makeT T k p).1 := by
  unfold makeT
  split
  · exact (Ext.refl _).mono (by omega)
  · exact addT_ext1 _ _
theorem secretT_ext (T : List Nd) : Ext 1 T (secretT T).1 := addT_ext1 _ _
theorem text_get {T : List Nd} {b : ByteArray} (hb : b.size ≤ 2048) (hl : T.length < 65536) : getT (textT T b).1 (textT T b).2 = some (nT b) := (textT_spec hb hl).1
theorem secret_get {T : List Nd} (hl : T.length < 65536) : getT (secretT T).1 (secretT T).2 = some ⟨2, ByteArray.empty, []⟩ := (addT_spec hl).1
theorem secret_new {T : List Nd} (hl : T.length < 65536) : secretT T = (T ++ [⟨2, ByteArray.empty, []⟩], (T.length : Int) + 1) := by
  unfold secretT addT
  rw [if_pos rfl]
  simp only [if_neg (show ¬ T.length = 65536 by omega)]
theorem make_get {T : List Nd} {k : Int} {p : List Int} (h : (0 : Int) ∉ p.map (kindT T)) (h' : formedT k (p.map (kindT T)) = true) (hl : T.length < 65536) : getT (makeT T k p).1 (makeT T k p).2 = some ⟨k, ByteArray.empty, ownT T k p⟩ := by
  rw [make_yes h h']
  exact (addT_spec hl).1
theorem no_zero_in {T : List Nd} (hw : WfT T) {p : List Int} (h : ∀ x ∈ p, In T x) : (0 : Int) ∉ p.map (kindT T) := fun h0 => by
  obtain ⟨x, hx, e⟩ := List.mem_map.1 h0
  exact (h x hx).kind hw e
theorem make_row {T : List Nd} (hw : WfT T) (hl : T.length < 65536) {p : List Int} (h : ∀ x ∈ p, In T x) (hn : p.length ≤ 16) : getT (makeT T 3 p).1 (makeT T 3 p).2 = some ⟨3, ByteArray.empty, p⟩ :=
  make_get (no_zero_in hw h) (by simp [formedT]; exact hn) hl
theorem make_hash {T : List Nd} (hw : WfT T) (hl : T.length < 65536) {x : Int} (h : In T x) : getT (makeT T 4 [x]).1 (makeT T 4 [x]).2 = some ⟨4, ByteArray.empty, [x]⟩ :=
  make_get (no_zero_in hw (by simpa using h)) (by simp [formedT]) hl
theorem make_mac {T : List Nd} (hw : WfT T) (hl : T.length < 65536) {x y : Int} (hx : In T x) (hy : In T y) : getT (makeT T 5 [x, y]).1 (makeT T 5 [x, y]).2 = some ⟨5, ByteArray.empty, [x, y]⟩ :=
  make_get (no_zero_in hw (by simp; exact ⟨hx, hy⟩)) (by simp [formedT]) hl
theorem make_public {T : List Nd} (hw : WfT T) (hl : T.length < 65536) {x : Int} (h : kindT T x = 2) : getT (makeT T 7 [x]).1 (makeT T 7 [x]).2 = some ⟨7, ByteArray.empty, [x]⟩ :=
  make_get (by simp [h]) (by simp [formedT, nth, h]) hl
theorem make_shared {T : List Nd} (hw : WfT T) (hl : T.length < 65536) {x y s : Int} {n : Nd} (h : kindT T x = 2) (hy : getT T y = some n) (hk : n.kind = 7) (hs : nth n.parts 0 = s) : getT (makeT T 8 [x, y]).1 (makeT T 8 [x, y]).2 = some ⟨8, ByteArray.empty, sort2 x s⟩ := by
  have h7 : kindT T y = 7 := by rw [kindT_get hy, hk]
  have := make_get (T := T) (k := 8) (p := [x, y]) (by simp [h, h7]) (by simp [formedT, nth, h, h7]) hl
  rw [this]
  unfold ownT
  rw [if_pos rfl, show nth [x, y] 1 = y from rfl, hy]
  show some (Nd.mk 8 ByteArray.empty (sort2 x (nth n.parts 0))) = _
  rw [hs]
theorem make_sealed {T : List Nd} (hw : WfT T) (hl : T.length < 65536) {k h c : Int} {b : ByteArray} (hk : In T k) (hh : getT T h = some (nT b)) (hc : In T c) {q : Int} (hq : q = 6 ∨ q = 10) : getT (makeT T q [k, h, c]).1 (makeT T q [k, h, c]).2 = some ⟨q, ByteArray.empty, [k, h, c]⟩ := by
  have h1 : kindT T h = 1 := by rw [kindT_get hh]; rfl
  have := make_get (T := T) (k := q) (p := [k, h, c]) (no_zero_in hw (by simp; exact ⟨hk, .of hh, hc⟩)) (by rcases hq with rfl | rfl <;> simp [formedT, nth, h1]) hl
  rw [this]
  rcases hq with rfl | rfl <;> rfl

/-- What is made of a term that is none is none. -/
theorem make_out {T : List Nd} {k : Int} {p : List Int} {x : Int} (hx : x ∈ p) (h : ¬ In T x) : makeT T k p = (T, 0) := make_no1 (List.mem_map.2 ⟨x, hx, kind_out h⟩)

/-! ### Derived ones -/
def DerAt (T : List Nd) (x s : Int) (l : ByteArray) (c : Int) : Prop := ∃ ha, getT T x = some ⟨6, ByteArray.empty, [s, ha, c]⟩ ∧ getT T ha = some (nT l)
def Der0 (T : List Nd) (x s : Int) (l : ByteArray) : Prop := ∃ c, DerAt T x s l c ∧ getT T c = some (nT ByteArray.empty)
theorem DerAt.ext {n : Nat} {T T' : List Nd} {x s c : Int} {l : ByteArray} (h : DerAt T x s l c) (e : Ext n T T') : DerAt T' x s l c := by
  obtain ⟨ha, h1, h2⟩ := h
  exact ⟨ha, e.get h1, e.get h2⟩
theorem Der0.ext {n : Nat} {T T' : List Nd} {x s : Int} {l : ByteArray} (h : Der0 T x s l) (e : Ext n T T') : Der0 T' x s l := by
  obtain ⟨c, h1, h2⟩ := h
  exact ⟨c, h1.ext e, e.get h2⟩
theorem DerAt.in_ {T : List Nd} {x s c : Int} {l : ByteArray} (h : DerAt T x s l c) : In T x := by
  obtain ⟨ha, h1, h2⟩ := h
  exact ⟨_, h1⟩
theorem Der0.in_ {T : List Nd} {x s : Int} {l : ByteArray} (h : Der0 T x s l) : In T x := by
  obtain ⟨c, h1, h2⟩ := h
  exact h1.in_
theorem nT_inj {a b : ByteArray} (h : nT a = nT b) : a = b := by simpa [nT] using h
theorem getT_fun {T : List Nd} {x : Int} {m n : Nd} (h : getT T x = some m) (k : getT T x = some n) : m = n := Option.some.inj (h.symm.trans k)
theorem DerAt.inj {T : List Nd} {x s s' c c' : Int} {l l' : ByteArray} (h : DerAt T x s l c) (k : DerAt T x s' l' c') : s = s' ∧ l = l' ∧ c = c' := by
  obtain ⟨ha, h1, h2⟩ := h
  obtain ⟨ka, k1, k2⟩ := k
  have := getT_fun h1 k1
  simp only [Nd.mk.injEq, List.cons.injEq, and_true, true_and] at this
  obtain ⟨rfl, rfl, rfl⟩ := this
  exact ⟨rfl, nT_inj (getT_fun h2 k2), rfl⟩
theorem text_uniq {T : List Nd} (hw : WfT T) {x y : Int} {b : ByteArray} (h : getT T x = some (nT b)) (k : getT T y = some (nT b)) : x = y := getT_uniq hw h k (by simp [nT])
theorem DerAt.uniq {T : List Nd} (hw : WfT T) {x y s c : Int} {l : ByteArray} (h : DerAt T x s l c) (k : DerAt T y s l c) : x = y := by
  obtain ⟨ha, h1, h2⟩ := h
  obtain ⟨ka, k1, k2⟩ := k
  obtain rfl := text_uniq hw h2 k2
  exact getT_uniq hw h1 k1 (by simp)
theorem Der0.inj {T : List Nd} {x s s' : Int} {l l' : ByteArray} (h : Der0 T x s l) (k : Der0 T x s' l') : s = s' ∧ l = l' := by
  obtain ⟨c, h1, h2⟩ := h
  obtain ⟨c', k1, k2⟩ := k
  exact ⟨(h1.inj k1).1, (h1.inj k1).2.1⟩
theorem Der0.uniq {T : List Nd} (hw : WfT T) {x y s : Int} {l : ByteArray} (h : Der0 T x s l) (k : Der0 T y s l) : x = y := by
  obtain ⟨c, h1, h2⟩ := h
  obtain ⟨c', k1, k2⟩ := k
  obtain rfl := text_uniq hw h2 k2
  exact h1.uniq hw k1
theorem der_ctx {T : List Nd} {s c : Int} {l : ByteArray} (hw : WfT T) (hl : l.size ≤ 2048) (hT : T.length < 60000) (hs : In T s) (hc : In T c) :
    DerAt (deriveT T s l c).1 (deriveT T s l c).2 s l c ∧ Ext 3 T (deriveT T s l c).1 := by
  obtain ⟨ns, es⟩ := hs
  obtain ⟨nc, ec⟩ := hc
  have k1 := (hw.get es).kind
  have k3 := (hw.get ec).kind
  have hc0 := getT_range ec
  obtain ⟨ha, c', D⟩ := deriveT_spec (c := c) hl hT es (by omega) (fun _ => ec) (fun _ => by omega)
  have := D.ctx1 (by omega)
  have h1 := D.node
  rw [this] at h1
  exact ⟨⟨ha, h1, D.text⟩, D.sub⟩
theorem der_zero {T : List Nd} {s : Int} {l : ByteArray} (hw : WfT T) (hl : l.size ≤ 2048) (hT : T.length < 60000) (hs : In T s) :
    Der0 (deriveT T s l 0).1 (deriveT T s l 0).2 s l ∧ Ext 3 T (deriveT T s l 0).1 := by
  obtain ⟨ns, es⟩ := hs
  have k1 := (hw.get es).kind
  obtain ⟨ha, c', D⟩ := deriveT_spec (c := 0) (nc := ns) hl hT es (by omega) (fun h => absurd rfl h) (fun h => absurd rfl h)
  exact ⟨⟨c', ⟨ha, D.node, D.text⟩, D.ctx0 rfl⟩, D.sub⟩
theorem deriveT_ext (T : List Nd) (s : Int) (l : ByteArray) (c : Int) : Ext 3 T (deriveT T s l c).1 := by
  unfold deriveT
  have h1 : Ext 1 T (ctxT T c).1 := by
    unfold ctxT
    split
    · exact textT_ext _ _
    · exact (Ext.refl _).mono (by omega)
  exact (h1.trans (textT_ext _ _)).trans (makeT_ext _ _ _)
theorem derive_out {T : List Nd} {s c : Int} {l : ByteArray} (h : ¬ In T s) (hs : ¬ (T.length < s ∧ s ≤ T.length + 2)) : (deriveT T s l c).2 = 0 := by
  unfold deriveT
  have h1 : Ext 1 T (ctxT T c).1 := by
    unfold ctxT
    split
    · exact textT_ext _ _
    · exact (Ext.refl _).mono (by omega)
  have h2 := h1.trans (textT_ext (ctxT T c).1 l)
  have hn : ¬ In (textT (ctxT T c).1 l).1 s := fun k => by
    have := k.range
    have := h2.len
    have : ¬ (1 ≤ s ∧ s ≤ T.length) := fun q => h (by
      obtain ⟨m, hm⟩ := getT_some q.1 q.2
      exact ⟨m, hm⟩)
    omega
  rw [make_out (x := s) (by simp) hn]

/-! ### Transcripts -/
def beginT (T : List Nd) : List Nd × Int := textT T ByteArray.empty
def nextT (T : List Nd) (tr : Int) (m : ByteArray) : List Nd × Int :=
  makeT (makeT (textT T m).1 3 [tr, (textT T m).2]).1 4 [(makeT (textT T m).1 3 [tr, (textT T m).2]).2]
def NextAt (T : List Nd) (x tr : Int) (m : ByteArray) : Prop := ∃ row tx, getT T x = some ⟨4, ByteArray.empty, [row]⟩ ∧ getT T row = some ⟨3, ByteArray.empty, [tr, tx]⟩ ∧ getT T tx = some (nT m)
theorem NextAt.ext {n : Nat} {T T' : List Nd} {x tr : Int} {m : ByteArray} (h : NextAt T x tr m) (e : Ext n T T') : NextAt T' x tr m := by
  obtain ⟨row, tx, h1, h2, h3⟩ := h
  exact ⟨row, tx, e.get h1, e.get h2, e.get h3⟩
theorem NextAt.inj {T : List Nd} {x tr tr' : Int} {m m' : ByteArray} (h : NextAt T x tr m) (k : NextAt T x tr' m') : tr = tr' ∧ m = m' := by
  obtain ⟨row, tx, h1, h2, h3⟩ := h
  obtain ⟨row', tx', k1, k2, k3⟩ := k
  have e1 := getT_fun h1 k1
  simp only [Nd.mk.injEq, List.cons.injEq, and_true, true_and] at e1
  subst e1
  have e2 := getT_fun h2 k2
  simp only [Nd.mk.injEq, List.cons.injEq, and_true, true_and] at e2
  obtain ⟨rfl, rfl⟩ := e2
  exact ⟨rfl, nT_inj (getT_fun h3 k3)⟩
theorem NextAt.uniq {T : List Nd} (hw : WfT T) {x y tr : Int} {m : ByteArray} (h : NextAt T x tr m) (k : NextAt T y tr m) : x = y := by
  obtain ⟨row, tx, h1, h2, h3⟩ := h
  obtain ⟨row', tx', k1, k2, k3⟩ := k
  obtain rfl := text_uniq hw h3 k3
  obtain rfl := getT_uniq hw h2 k2 (by simp)
  exact getT_uniq hw h1 k1 (by simp)
/-- Transcript x is that behind these messages, the last one first. -/
def TrAt (T : List Nd) : Int → List ByteArray → Prop
  | x, [] => getT T x = some (nT ByteArray.empty)
  | x, m :: ms => ∃ y, TrAt T y ms ∧ NextAt T x y m
theorem TrAt.ext {n : Nat} {T T' : List Nd} (e : Ext n T T') : ∀ {ms : List ByteArray} {x : Int}, TrAt T x ms → TrAt T' x ms
  | [], _, h => e.get h
  | _ :: _, _, ⟨y, h1, h2⟩ => ⟨y, TrAt.ext e h1, h2.ext e⟩
theorem TrAt.in_ {T : List Nd} : ∀ {ms : List ByteArray} {x : Int}, TrAt T x ms → In T x
  | [], _, h => ⟨_, h⟩
  | _ :: _, _, ⟨_, _, ⟨_, _, h, _⟩⟩ => ⟨_, h⟩
theorem TrAt.inj {T : List Nd} : ∀ {ms ms' : List ByteArray} {x : Int}, TrAt T x ms → TrAt T x ms' → ms = ms'
  | [], [], _, _, _ => rfl
  | [], _ :: _, _, h, ⟨_, _, ⟨_, _, k, _⟩⟩ => by have := getT_fun h k; simp [nT] at this
  | _ :: _, [], _, ⟨_, _, ⟨_, _, k, _⟩⟩, h => by have := getT_fun h k; simp [nT] at this
  | m :: ms, m' :: ms', x, ⟨y, h1, h2⟩, ⟨y', k1, k2⟩ => by
    obtain ⟨rfl, rfl⟩ := h2.inj k2
    rw [TrAt.inj h1 k1]
theorem TrAt.uniq {T : List Nd} (hw : WfT T) : ∀ {ms : List ByteArray} {x y : Int}, TrAt T x ms → TrAt T y ms → x = y
  | [], _, _, h, k => text_uniq hw h k
  | _ :: _, _, _, ⟨y, h1, h2⟩, ⟨y', k1, k2⟩ => by
    obtain rfl := TrAt.uniq hw h1 k1
    exact h2.uniq hw k2
theorem nextT_ext (T : List Nd) (tr : Int) (m : ByteArray) : Ext 3 T (nextT T tr m).1 := ((textT_ext _ _).trans (makeT_ext _ _ _)).trans (makeT_ext _ _ _)
theorem wf_text {T : List Nd} (hw : WfT T) (b : ByteArray) : WfT (textT T b).1 := by
  unfold textT
  split
  · exact wfT_add hw (good_text T (by assumption))
  · exact hw
theorem wf_make {T : List Nd} (hw : WfT T) (k : Int) (p : List Int) : WfT (makeT T k p).1 := by
  by_cases c1 : (0 : Int) ∈ p.map (kindT T)
  · rw [make_no1 c1]; exact hw
  by_cases c2 : formedT k (p.map (kindT T)) = false
  · rw [make_no2 c2]; exact hw
  have c2 : formedT k (p.map (kindT T)) = true := by simpa using c2
  rw [make_yes c1 c2]
  exact wfT_add hw (good_make hw c1 c2)
theorem wf_secret {T : List Nd} (hw : WfT T) : WfT (secretT T).1 := wfT_add hw (good_secret T)
theorem next_spec {T : List Nd} {tr : Int} {m : ByteArray} (hw : WfT T) (hm : m.size ≤ 2048) (hT : T.length < 60000) (h : In T tr) : NextAt (nextT T tr m).1 (nextT T tr m).2 tr m := by
  have e1 := textT_ext T m
  have h1 := text_get (T := T) hm (by omega)
  have w1 := wf_text hw m
  have l1 := e1.len
  have h2 := make_row w1 (by omega) (p := [tr, (textT T m).2]) (by simp; exact ⟨h.ext e1, .of h1⟩) (by simp)
  have e2 := makeT_ext (textT T m).1 3 [tr, (textT T m).2]
  have w2 := wf_make w1 3 [tr, (textT T m).2]
  have l2 := e2.len
  have h3 := make_hash w2 (by omega) (.of h2)
  have e3 := makeT_ext (makeT (textT T m).1 3 [tr, (textT T m).2]).1 4 [(makeT (textT T m).1 3 [tr, (textT T m).2]).2]
  exact ⟨_, _, h3, e3.get h2, (e2.trans e3).get h1⟩
theorem nextT_wf {T : List Nd} (hw : WfT T) (tr : Int) (m : ByteArray) : WfT (nextT T tr m).1 := wf_make (wf_make (wf_text hw m) _ _) _ _
theorem begin_spec {T : List Nd} (hT : T.length < 60000) : TrAt (beginT T).1 (beginT T).2 [] := text_get (by decide) (by omega)
end Go.Proofs.Ytbcicfgffjgpdaa

/- The tag of a retry on the table. Plain. -/
set_option linter.unusedVariables false
namespace Go.Proofs.Ytbcicfgffjgpdaa
open Go Go.RowKit

def retryS : ByteArray := ⟨#[114, 101, 116, 114, 121]⟩
def TagAt (T : List Nd) (x : Int) (g b : ByteArray) : Prop := ∃ k row gg xx, getT T x = some ⟨5, ByteArray.empty, [k, row]⟩ ∧ getT T k = some (nT retryS) ∧ getT T row = some ⟨3, ByteArray.empty, [gg, xx]⟩ ∧ getT T gg = some (nT g) ∧ getT T xx = some (nT b)
theorem TagAt.ext {n : Nat} {T T' : List Nd} {x : Int} {g b : ByteArray} (h : TagAt T x g b) (e : Ext n T T') : TagAt T' x g b := by
  obtain ⟨k, row, gg, xx, h1, h2, h3, h4, h5⟩ := h
  exact ⟨k, row, gg, xx, e.get h1, e.get h2, e.get h3, e.get h4, e.get h5⟩
theorem TagAt.in_ {T : List Nd} {x : Int} {g b : ByteArray} (h : TagAt T x g b) : In T x := by
  obtain ⟨k, row, gg, xx, h1, -⟩ := h
  exact ⟨_, h1⟩
theorem TagAt.inj {T : List Nd} {x : Int} {g g' b b' : ByteArray} (h : TagAt T x g b) (h' : TagAt T x g' b') : g = g' ∧ b = b' := by
  obtain ⟨k, row, gg, xx, h1, h2, h3, h4, h5⟩ := h
  obtain ⟨k', row', gg', xx', h1', h2', h3', h4', h5'⟩ := h'
  have e1 := getT_fun h1 h1'
  simp only [Nd.mk.injEq, List.cons.injEq, and_true, true_and] at e1
  obtain ⟨rfl, rfl⟩ := e1
  have e2 := getT_fun h3 h3'
  simp only [Nd.mk.injEq, List.cons.injEq, and_true, true_and] at e2
  obtain ⟨rfl, rfl⟩ := e2
  exact ⟨nT_inj (getT_fun h4 h4'), nT_inj (getT_fun h5 h5')⟩
theorem TagAt.uniq {T : List Nd} (hw : WfT T) {x y : Int} {g b : ByteArray} (h : TagAt T x g b) (h' : TagAt T y g b) : x = y := by
  obtain ⟨k, row, gg, xx, h1, h2, h3, h4, h5⟩ := h
  obtain ⟨k', row', gg', xx', h1', h2', h3', h4', h5'⟩ := h'
  obtain rfl := text_uniq hw h2 h2'
  obtain rfl := text_uniq hw h4 h4'
  obtain rfl := text_uniq hw h5 h5'
  obtain rfl := getT_uniq hw h3 h3' (show (3 : Int) ≠ 2 by decide)
  exact getT_uniq hw h1 h1' (show (5 : Int) ≠ 2 by decide)
/-- Key, goal and text made in this order, then the row, then the mac. -/
def tagT (T : List Nd) (g b : ByteArray) : List Nd × Int :=
  makeT (makeT (textT (textT (textT T retryS).1 g).1 b).1 3 [(textT (textT T retryS).1 g).2, (textT (textT (textT T retryS).1 g).1 b).2]).1 5
    [(textT T retryS).2, (makeT (textT (textT (textT T retryS).1 g).1 b).1 3 [(textT (textT T retryS).1 g).2, (textT (textT (textT T retryS).1 g).1 b).2]).2]
theorem tag_spec {T : List Nd} {g b : ByteArray} (hw : WfT T) (hT : T.length < 50000) (hg : g.size ≤ 2048) (hb : b.size ≤ 2048) : TagAt (tagT T g b).1 (tagT T g b).2 g b ∧ Ext 5 T (tagT T g b).1 := by
  have k1 := text_get (T := T) (b := retryS) (by decide) (by omega)
  have x1 := textT_ext T retryS
  have w1 := wf_text hw retryS
  have l1 := x1.len
  unfold tagT
  generalize (textT T retryS).1 = T1 at *
  generalize (textT T retryS).2 = k at *
  have k2 := text_get (T := T1) (b := g) hg (by omega)
  have x2 := textT_ext T1 g
  have w2 := wf_text w1 g
  have l2 := x2.len
  generalize (textT T1 g).1 = T2 at *
  generalize (textT T1 g).2 = gg at *
  have k3 := text_get (T := T2) (b := b) hb (by omega)
  have x3 := textT_ext T2 b
  have w3 := wf_text w2 b
  have l3 := x3.len
  generalize (textT T2 b).1 = T3 at *
  generalize (textT T2 b).2 = xx at *
  have k4 := make_row w3 (by omega) (p := [gg, xx]) (by simp; exact ⟨.of (x3.get k2), .of k3⟩) (by simp)
  have x4 := makeT_ext T3 3 [gg, xx]
  have w4 := wf_make w3 3 [gg, xx]
  have l4 := x4.len
  generalize (makeT T3 3 [gg, xx]).1 = T4 at *
  generalize (makeT T3 3 [gg, xx]).2 = row at *
  have k5 := make_mac w4 (by omega) (x := k) (y := row) (.of (x4.get (x3.get (x2.get k1)))) (.of k4)
  have x5 := makeT_ext T4 5 [k, row]
  exact ⟨⟨k, row, gg, xx, k5, x5.get (x4.get (x3.get (x2.get k1))), x5.get k4, x5.get (x4.get (x3.get k2)), x5.get (x4.get k3)⟩, (((x1.trans x2).trans x3).trans x4).trans x5⟩
end Go.Proofs.Ytbcicfgffjgpdaa

/- What slices.Grow and slices.Concat do with rows of bytes. No condition. -/
set_option linter.unusedVariables false
set_option linter.unusedSimpArgs false
namespace Go.Proofs.Ytbcicfgffjgpdaa
open Go Go.RowKit

theorem below_pair {w : World} (o o' : Obj) : Below w.heap.size w ((w.alloc o).alloc o') := ((Below.refl _ _).alloc (Nat.le_refl _) o).alloc (by simp) o'
/-- A call that hands back a row of bytes of its own. -/
def BytesPost (xs : List Int) (w : World) (e : Ending) (w' : World) : Prop := ∃ v, e = .returned v ∧ OwnI w' w.heap.size .u8 v xs ∧ Below w.heap.size w w'
theorem BytesPost.nil {w w' : World} (hb : Below w.heap.size w w') : BytesPost [] w (.returned (.slice none 0 0)) w' := ⟨_, rfl, OwnI.nil _ _ _, hb⟩
theorem OwnI.none_of {w : World} {B : Nat} {k : IntKind} {A : Option Addr} {n c : Nat} {xs : List Int} (h : OwnI w B k (.slice A n c) xs) : OwnI w B k (.slice A 0 c) [] := by
  rcases h with ⟨rfl, e⟩ | ⟨g, cap, cur, t, e, hb, hg, ht, h1, h2, h3, hc⟩
  · cases e; exact OwnI.nil _ _ _
  · cases e; exact .inr ⟨g, c, cur, t, rfl, hb, hg, ht, Nat.zero_le _, h2, h3, by simp⟩
set_option maxHeartbeats 800000 in
set_option maxRecDepth 100000 in
theorem grow_any (m : Nat) (w : World) (hm : m ≤ 1000000) : Calls Try.prog 78 #[.slice none 0 0, .int .i64 m] w (BytesPost [] w) := by
  by_cases h0 : m = 0
  · subst h0
    go_enter Try.func78, Try.ntmps78
    go_wp2_with fail
    go_ret
    exact BytesPost.nil (Below.refl _ _)
  · have hp : (0 : Int) < (m : Int) := by omega
    have hn : ¬ ((m : Int) < 0) := by omega
    go_enter Try.func78, Try.ntmps78
    go_wp2_with (at_builtin; refine wp_app_u8_zeros (B := w.heap.size) rfl _ _ rfl rfl rfl rfl (OwnI.nil _ _ _) (by omega) (Nat.le_refl _) (by simp; omega) ?_)
    intro v' w1 hv hg hb
    obtain ⟨A, c, rfl⟩ := hv.slice
    have HV := Lib.hid hv.none_of
    have HB := Lib.hid hb
    have hc := (hv.rds (B' := 0)).cap
    have hmx := (hv.rds (B' := 0)).max
    simp only [List.nil_append, List.length_replicate] at hc ⊢
    clear hv hg hb
    go_wp2_with fail
    go_ret
    exact ⟨_, rfl, HV.out, HB.out⟩

/-- A row of rows of bytes. -/
def RdL (B : Nat) (w : World) (b o : Nat) (L : List (List Int)) : Prop := b < w.heap.size ∧ ∀ i xs, L[i]? = some xs → ∃ A c, w.cell? ⟨b, o + i, none⟩ = some (.slice A xs.length c) ∧ Rds B w .u8 A xs.length c xs
theorem RdL.below {B : Nat} {w w' : World} {b o : Nat} {L : List (List Int)} (h : RdL B w b o L) (hb : Below w.heap.size w w') : RdL B w' b o L :=
  ⟨Nat.lt_of_lt_of_le h.1 hb.size, fun i xs e => by
    obtain ⟨A, c, h1, h2⟩ := h.2 i xs e
    exact ⟨A, c, (hb.cell (by simpa using h.1)).trans h1, h2.below hb⟩⟩
theorem flat_succ {L : List (List Int)} {k : Nat} {xs : List Int} (h : L[k]? = some xs) : (L.take (k + 1)).flatten = (L.take k).flatten ++ xs := by
  rw [List.take_add_one, h]
  simp
theorem flat_le (L : List (List Int)) (k : Nat) : (L.take k).flatten.length ≤ L.flatten.length := by
  have : (L.take k ++ L.drop k).flatten.length = L.flatten.length := by rw [List.take_append_drop]
  simp only [List.flatten_append, List.length_append] at this
  omega
set_option maxHeartbeats 1600000 in
set_option maxRecDepth 100000 in
theorem concat_any {B' : Nat} (b o n c : Nat) (L : List (List Int)) (w : World) (h : RdL B' w b o L) (hn : L.length = n) (hc : n ≤ c) (hc2 : c ≤ 9223372036854775807) (hl : L.flatten.length ≤ 100000) :
    Calls Try.prog 71 #[.slice (some ⟨b, o, none⟩) n c] w (BytesPost L.flatten w) := by
  have H := Lib.hid h
  have HN := Lib.hid hn
  have HF := Lib.hid hl
  clear h hn hl
  go_enter Try.func71, Try.ntmps71
  go_wp2_with fail
  go_loop [3, 11] (fun s i => ∃ k : Nat, k ≤ n ∧ s = .int .i64 ((L.take k).flatten.length : Nat) ∧ i = .int .i64 k) (fun _ i => n - (intOf i).toNat)
  case atStart => exact ⟨0, Nat.zero_le _, rfl, rfl⟩
  case round =>
    obtain ⟨k, hk, rfl, rfl⟩ := hrel
    by_cases hlt : k < n
    · obtain ⟨xs, hxs⟩ : ∃ xs, L[k]? = some xs := ⟨_, List.getElem?_eq_getElem (by have := HN.out; omega)⟩
      obtain ⟨A, c1, x0, -⟩ := H.out.2 k xs hxs
      have HX := Lib.hid (flat_succ hxs)
      have hle := flat_le L (k + 1)
      have hlen : (L.take (k + 1)).flatten.length = (L.take k).flatten.length + xs.length := by rw [HX.out]; simp
      have HL := Lib.hid hlen
      have hF := HF.out
      obtain ⟨S, hS⟩ : ∃ S, S = (L.take k).flatten.length := ⟨_, rfl⟩
      rw [← hS] at hlen ⊢
      have hw : IntKind.i64.wrap ((S : Int) + (xs.length : Int)) = ((S + xs.length : Nat) : Int) := by rw [IntKind.wrap_i64]; push_cast; omega
      have hnn : ¬ (((S + xs.length : Nat) : Int) < 0) := by omega
      have HS := Lib.hid hS
      clear hxs hle hlen hF hS
      go_wp2_with fail
      go_round
      case rel => exact ⟨k + 1, by omega, by rw [HL.out, ← HS.out]; push_cast; rfl, by go_num⟩
      case measure => simp [intOf]; omega
    · obtain rfl : k = n := by omega
      have hF := HF.out
      have hle := flat_le L k
      obtain ⟨S, hS⟩ : ∃ S, S = (L.take k).flatten.length := ⟨_, rfl⟩
      rw [← hS] at hle ⊢
      clear hS
      go_wp2_with fail
      refine (grow_any S w (by omega)).mono ?_
      rintro e w1 ⟨v, rfl, hv, hb⟩
      have HV := Lib.hid hv
      have HB := Lib.hid hb
      clear hv hb
      go_wp2_with fail
      go_loopw [6, 27] (fun v i wr => ∃ j : Nat, j ≤ k ∧ i = .int .i64 j ∧ OwnI wr w.heap.size .u8 v (L.take j).flatten ∧ Below w.heap.size w wr) (fun _ i _ => k - (intOf i).toNat)
      case atStart => exact ⟨0, Nat.zero_le _, rfl, HV.out, HB.out⟩
      case round =>
        obtain ⟨j, hj, rfl, hv, hb⟩ := hrel
        have HV := Lib.hid hv
        have HB := Lib.hid hb
        clear hv hb
        by_cases hlt : j < k
        · obtain ⟨xs, hxs⟩ : ∃ xs, L[j]? = some xs := ⟨_, List.getElem?_eq_getElem (by have := HN.out; omega)⟩
          obtain ⟨A, c1, x0, hr⟩ := (H.out.below HB.out).2 j xs hxs
          have HR := Lib.hid hr.cell
          have HX := Lib.hid (flat_succ hxs)
          have hle2 := flat_le L (j + 1)
          rw [HX.out] at hle2
          simp only [List.length_append] at hle2
          clear hr hxs
          go_wp2_with (at_builtin; refine wp_app_u8 rfl _ _ rfl rfl rfl HV.out HR.out rfl HB.out.size (by omega) ?_)
          intro v' w2 hv2 hg2 hb2
          rw [← HX.out] at hv2
          have HV2 := Lib.hid hv2
          have HB2 := Lib.hid (HB.out.trans hb2)
          clear hv2 hg2 hb2
          go_wp2_with fail
          go_roundw
          case rel => exact ⟨j + 1, by omega, by go_num, HV2.out, HB2.out⟩
          case measure => simp [intOf]; omega
        · obtain rfl : j = k := by omega
          have HE : Hid ((L.take j).flatten = L.flatten) := by show _ = _; rw [List.take_of_length_le (by have := HN.out; omega)]
          go_wp2_with fail
          go_ret
          exact ⟨_, rfl, by rw [← HE.out]; exact HV.out, HB.out⟩
theorem RdL.lit {B g t : Nat} {w0 : World} (hg : w0.heap.size = g) (L : List (Option Addr × Nat × List Int)) (cs : Array Value) (hcs : cs = (L.map fun q => Value.slice q.1 q.2.2.length q.2.1).toArray) (h : ∀ q ∈ L, Rds B w0 .u8 q.1 q.2.2.length q.2.1 q.2.2) :
    RdL B (w0.alloc (.cells cs t)) g 0 (L.map (·.2.2)) := by
  subst hg hcs
  refine ⟨by simp, fun i xs e => ?_⟩
  rw [List.getElem?_map] at e
  obtain ⟨q, hq, rfl⟩ := Option.map_eq_some_iff.1 e
  refine ⟨q.1, q.2.1, ?_, (h q (List.mem_of_getElem? hq)).below (below_new _)⟩
  rw [cell_of_row _ _ (0 + i) _ _ _ (heap_alloc_new w0 _), Nat.zero_add]
  simp [hq]
theorem rds_byte {B g : Nat} {w0 : World} (hg : w0.heap.size = g) (x : Int) : Rds B (w0.alloc (.cells #[.int .u8 x] 5)) .u8 (some ⟨g, 0, none⟩) 1 1 [x] := by
  subst hg
  exact (OwnI.fresh (w := w0) (B := 0) (k := .u8) (xs := [x]) (t := 5) (Nat.zero_le _) (by decide) (by simp)).rds
end Go.Proofs.Ytbcicfgffjgpdaa

/- Plain: the bytes of lists and retries (layer 8). No condition. -/
set_option linter.unusedVariables false
set_option linter.unusedSimpArgs false
namespace Go.Proofs.Ytbcicfgffjgpdaa
open Go Go.RowKit

/-- May a number be a version? -/
def VerOk (n : Int) : Prop := 1 ≤ n ∧ n ≤ 4294967295
instance (n : Int) : Decidable (VerOk n) := inferInstanceAs (Decidable (_ ∧ _))
/-- A number's four bytes. -/
def bigB (n : Int) : List Int := [n / 16777216 % 256, n / 65536 % 256, n / 256 % 256, n % 256]
theorem bigB_byt (n : Int) : Byt (bigB n) := by
  intro x hx
  simp only [bigB, List.mem_cons, List.not_mem_nil, or_false] at hx
  rcases hx with rfl | rfl | rfl | rfl <;> omega
theorem bigB_len (n : Int) : (bigB n).length = 4 := rfl
/-- A packet's first bytes. -/
def headB (first v : Int) (ts fr : List Int) : List Int := first :: (bigB v ++ (((ts.length : Int) :: ts) ++ ((fr.length : Int) :: fr)))
def NamesOk (ts fr : List Int) : Prop := ts.length ≤ 20 ∧ fr.length ≤ 20
instance (ts fr : List Int) : Decidable (NamesOk ts fr) := inferInstanceAs (Decidable (_ ∧ _))
def bigs (vs : List Int) : List Int := vs.flatMap bigB
theorem bigs_len (vs : List Int) : (bigs vs).length = 4 * vs.length := by
  induction vs with
  | nil => rfl
  | cons v vs ih => simp only [bigs, List.flatMap_cons, List.length_append, bigB_len, List.length_cons] at *; omega
theorem bigs_snoc (vs : List Int) (v : Int) : bigs (vs ++ [v]) = bigs vs ++ bigB v := by simp [bigs]
def ListOk (ts fr vs : List Int) : Prop := NamesOk ts fr ∧ 1 ≤ vs.length ∧ vs.length ≤ 16 ∧ ∀ v ∈ vs, VerOk v
instance (ts fr vs : List Int) : Decidable (ListOk ts fr vs) := inferInstanceAs (Decidable (_ ∧ _))
def listB (ts fr vs : List Int) : List Int := if ListOk ts fr vs then headB 128 0 ts fr ++ bigs vs else []
def BodyOk (ver : Int) (ts fr : List Int) (token : Int) : Prop := NamesOk ts fr ∧ VerOk ver ∧ 1 ≤ token ∧ token ≤ 65536
instance (ver : Int) (ts fr : List Int) (token : Int) : Decidable (BodyOk ver ts fr token) := inferInstanceAs (Decidable (_ ∧ _))
def bodyB (ver : Int) (ts fr : List Int) (token : Int) : List Int := if BodyOk ver ts fr token then headB 240 ver ts fr ++ numB token else []
def retryB (ver : Int) (ts fr : List Int) (token tag : Int) : List Int := if BodyOk ver ts fr token ∧ 1 ≤ tag ∧ tag ≤ 65536 then bodyB ver ts fr token ++ numB tag else []
theorem headB_len (first v : Int) (ts fr : List Int) : (headB first v ts fr).length = 7 + ts.length + fr.length := by
  simp [headB, bigB]; omega
theorem numB_nil {h : Int} : numB h = [] ↔ ¬ (1 ≤ h ∧ h ≤ 65536) := by
  unfold numB
  split <;> simp_all
end Go.Proofs.Ytbcicfgffjgpdaa

/- What version, big, head, WriteList, body, WriteRetry of layer 8 do. No condition. -/
set_option linter.unusedVariables false
set_option linter.unusedSimpArgs false
namespace Go.Proofs.Ytbcicfgffjgpdaa
open Go Go.RowKit

theorem later_cell {w w1 : World} {B : Nat} (hb : Below B w w1) {a : Addr} {v : Value} (h : w.cell? a = some v) (hB : a.block < B) : w1.cell? a = some v := (hb.cell hB).trans h
set_option maxHeartbeats 400000 in
theorem version_any (n : Int) (w : World) : Calls Try.prog 58 #[.int .i64 n] w fun e w' => e = .returned (.bool (decide (VerOk n))) ∧ w = w' := by
  by_cases h1 : 1 ≤ n
  · by_cases h2 : n < 4294967296
    · rw [decide_eq_true (show VerOk n from ⟨h1, by omega⟩)]
      go_enter Try.func58, Try.ntmps58
      go_wp2_with fail
      go_ret
      exact ⟨rfl, rfl⟩
    · rw [decide_eq_false (show ¬ VerOk n from fun h => by have := h.2; omega)]
      go_enter Try.func58, Try.ntmps58
      go_wp2_with fail
      go_ret
      exact ⟨rfl, rfl⟩
  · rw [decide_eq_false (show ¬ VerOk n from fun h => by have := h.1; omega)]
    go_enter Try.func58, Try.ntmps58
    go_wp2_with fail
    go_ret
    exact ⟨rfl, rfl⟩

set_option maxHeartbeats 800000 in
theorem big_any (n : Int) (w : World) : Calls Try.prog 59 #[.int .i64 n] w (BytesPost (bigB n) w) := by
  go_enter Try.func59, Try.ntmps59
  go_wp2_with fail
  go_ret
  have := OwnI.fresh (w := w) (B := w.heap.size) (k := .u8) (xs := bigB n) (t := 112) (Nat.le_refl _) (by decide) (by rw [bigB_len]; decide)
  exact ⟨_, rfl, this, below_new _⟩

/-- The head's bytes, or nothing. -/
def headV (first v : Int) (ts fr : List Int) : List Int := if NamesOk ts fr then headB first v ts fr else []
set_option maxHeartbeats 1600000 in
set_option maxRecDepth 100000 in
theorem head_any {B1 B2 : Nat} (first v : Int) (A1 A2 : Option Addr) (n1 n2 c1 c2 : Nat) (ts fr : List Int) (w : World) (h1 : Rds B1 w .u8 A1 n1 c1 ts) (h2 : Rds B2 w .u8 A2 n2 c2 fr) :
    Calls Try.prog 56 #[.int .u8 first, .int .i64 v, .slice A1 n1 c1, .slice A2 n2 c2] w (BytesPost (headV first v ts fr) w) := by
  have H1 := Lib.hid h1
  have H2 := Lib.hid h2
  have L1 := Lib.hid h1.len
  have L2 := Lib.hid h2.len
  clear h1 h2
  go_enter Try.func56, Try.ntmps56
  by_cases k1 : 20 < n1
  · have HE : Hid (headV first v ts fr = []) := if_neg (fun h => by have := h.1; have := L1.out; omega)
    go_wp2_with fail
    go_ret
    rw [HE.out]
    exact BytesPost.nil (Below.refl _ _)
  by_cases k2 : 20 < n2
  · have HE : Hid (headV first v ts fr = []) := if_neg (fun h => by have := h.2; have := L2.out; omega)
    go_wp2_with fail
    go_ret
    rw [HE.out]
    exact BytesPost.nil (Below.refl _ _)
  have HE : Hid (headV first v ts fr = headB first v ts fr) := if_pos ⟨by have := L1.out; omega, by have := L2.out; omega⟩
  have w1 : IntKind.u8.wrap (n1 : Int) = (n1 : Int) := by show (n1 : Int) % 256 = _; omega
  have w2 : IntKind.u8.wrap (n2 : Int) = (n2 : Int) := by show (n2 : Int) % 256 = _; omega
  go_wp2_with fail
  refine (big_any v _).mono ?_
  rintro e w3 ⟨v3, rfl, hv3, hb3⟩
  obtain ⟨A3, c3, rfl⟩ := hv3.slice
  have HV3 := Lib.hid hv3
  have HB3 := Lib.hid hb3
  rw [bigB_len] at *
  clear hv3 hb3
  have hs3 := HB3.out.size
  simp only [World.size_alloc] at hs3
  have HB13 := Lib.hid (below_next (below_new (w := w) (.cells #[.int .u8 first] 5)) (by simp) HB3.out)
  have R1 := Lib.hid ((rds_byte (B := 0) (w0 := w) rfl first).below HB3.out)
  obtain ⟨W5, hW5⟩ : ∃ W5, W5 = (w3.alloc (.cells #[.int .u8 (n1 : Int)] 5)).alloc (.cells #[.int .u8 (n2 : Int)] 5) := ⟨_, rfl⟩
  have b4 : Below w3.heap.size w3 W5 := by rw [hW5]; exact below_pair _ _
  have s5 : W5.heap.size = w3.heap.size + 1 + 1 := by rw [hW5]; simp
  have B15 := Lib.hid (below_next HB13.out (by omega) b4)
  have HL : Hid (RdL (max B1 B2) (W5.alloc (.cells #[.slice (some ⟨w.heap.size, 0, none⟩) 1 1, .slice A3 4 c3, .slice (some ⟨w3.heap.size, 0, none⟩) 1 1, .slice A1 n1 c1, .slice (some ⟨w3.heap.size + 1, 0, none⟩) 1 1, .slice A2 n2 c2] 27)) (w3.heap.size + 1 + 1) 0 [[first], bigB v, [(n1 : Int)], ts, [(n2 : Int)], fr]) := by
    refine RdL.lit (B := max B1 B2) s5 [(some ⟨w.heap.size, 0, none⟩, 1, [first]), (A3, c3, bigB v), (some ⟨w3.heap.size, 0, none⟩, 1, [(n1 : Int)]), (A1, c1, ts), (some ⟨w3.heap.size + 1, 0, none⟩, 1, [(n2 : Int)]), (A2, c2, fr)] _ ?_ ?_
    · simp [L1.out, L2.out, bigB_len]
    · intro q hq
      simp only [List.mem_cons, List.not_mem_nil, or_false] at hq
      rcases hq with rfl | rfl | rfl | rfl | rfl | rfl
      · exact (R1.out.below b4).mono (Nat.zero_le _)
      · exact (HV3.out.below b4).rds (B' := max B1 B2)
      · rw [hW5]
        exact (rds_byte rfl _).below (below_new _)
      · have := (H1.out.below B15.out).mono (Nat.le_max_left B1 B2)
        rw [← L1.out] at this
        exact this
      · rw [hW5]
        exact rds_byte (by simp) _
      · have := (H2.out.below B15.out).mono (Nat.le_max_right B1 B2)
        rw [← L2.out] at this
        exact this
  have HFl : Hid ([[first], bigB v, [(n1 : Int)], ts, [(n2 : Int)], fr].flatten = headB first v ts fr) := by
    show _ = _
    simp [headB, L1.out, L2.out]
  have HFn : Hid ([[first], bigB v, [(n1 : Int)], ts, [(n2 : Int)], fr].flatten.length ≤ 100000) := by
    show _ ≤ _
    rw [HFl.out, headB_len, L1.out, L2.out]
    omega
  have key := concat_any (B' := max B1 B2) (w3.heap.size + 1 + 1) 0 6 6 [[first], bigB v, [(n1 : Int)], ts, [(n2 : Int)], fr] _ HL.out rfl (by omega) (by omega) HFn.out
  have HB5 : Hid (Below w.heap.size w (W5.alloc (.cells #[.slice (some ⟨w.heap.size, 0, none⟩) 1 1, .slice A3 4 c3, .slice (some ⟨w3.heap.size, 0, none⟩) 1 1, .slice A1 n1 c1, .slice (some ⟨w3.heap.size + 1, 0, none⟩) 1 1, .slice A2 n2 c2] 27))) := B15.out.alloc (by omega) _
  have hs6 := HB5.out.size
  clear HL HFn R1 HV3
  go_wp2_with fail
  rw [← hW5]
  clear hW5 b4
  refine key.mono ?_
  clear key
  rintro e w7 ⟨v7, rfl, hv7, hb7⟩
  rw [HFl.out] at hv7
  have HV7 := Lib.hid (hv7.mono hs6)
  have HB7 := Lib.hid (below_next HB5.out hs6 hb7)
  clear hv7 hb7
  go_wp2_with fail
  go_ret
  rw [HE.out]
  exact ⟨_, rfl, HV7.out, HB7.out⟩
end Go.Proofs.Ytbcicfgffjgpdaa

/- What WriteList, body, WriteRetry of layer 8 do. No condition. -/
set_option linter.unusedVariables false
set_option linter.unusedSimpArgs false
namespace Go.Proofs.Ytbcicfgffjgpdaa
open Go Go.RowKit

theorem headV_no {first v : Int} {ts fr : List Int} (h : ¬ NamesOk ts fr) : headV first v ts fr = [] := if_neg h
theorem headV_yes {first v : Int} {ts fr : List Int} (h : NamesOk ts fr) : headV first v ts fr = headB first v ts fr := if_pos h
theorem listB_no {ts fr vs : List Int} (h : ¬ ListOk ts fr vs) : listB ts fr vs = [] := if_neg h
theorem listB_yes {ts fr vs : List Int} (h : ListOk ts fr vs) : listB ts fr vs = headB 128 0 ts fr ++ bigs vs := if_pos h
theorem bigs_take {vs : List Int} {k : Nat} (h : k < vs.length) : bigs (vs.take (k + 1)) = bigs (vs.take k) ++ bigB (nth vs k) := by rw [take_nth_succ h, bigs_snoc]
set_option maxHeartbeats 3200000 in
set_option maxRecDepth 100000 in
theorem writeList_any {B1 B2 B3 : Nat} (A1 A2 A3 : Option Addr) (n1 n2 n3 c1 c2 c3 : Nat) (ts fr vs : List Int) (w : World) (h1 : Rds B1 w .u8 A1 n1 c1 ts) (h2 : Rds B2 w .u8 A2 n2 c2 fr) (h3 : Rds B3 w .i64 A3 n3 c3 vs) :
    Calls Try.prog 51 #[.agg #[.slice A1 n1 c1, .slice A2 n2 c2, .slice A3 n3 c3]] w (BytesPost (listB ts fr vs) w) := by
  have H1 := Lib.hid h1
  have H2 := Lib.hid h2
  have H3 := Lib.hid h3
  have L3 := Lib.hid h3.len
  clear h1 h2 h3
  obtain ⟨W, hW⟩ : ∃ W, W = w.alloc (.cells #[.slice A1 n1 c1, .slice A2 n2 c2, .slice A3 n3 c3] 85) := ⟨_, rfl⟩
  have HBW : Hid (Below w.heap.size w W) := by rw [hW]; exact below_new _
  have hsW : W.heap.size = w.heap.size + 1 := by rw [hW]; simp
  have x2 : W.cell? ⟨w.heap.size, 2, none⟩ = some (.slice A3 n3 c3) := by rw [hW]; simp [go_sem]
  go_enter Try.func51, Try.ntmps51
  go_wp2_with fail
  rw [← hW]
  clear hW
  refine (head_any 128 0 A1 A2 n1 n2 c1 c2 ts fr W (H1.out.below HBW.out) (H2.out.below HBW.out)).mono ?_
  rintro e w3 ⟨v3, rfl, hv3, hb3⟩
  have x3 := later_cell hb3 x2 (by simp; omega)
  obtain ⟨A, c, rfl⟩ := hv3.slice
  have HB3 := Lib.hid (below_next HBW.out (by omega) hb3)
  by_cases k1 : NamesOk ts fr
  rotate_left
  · have HE := Lib.hid (listB_no (vs := vs) (fun h => k1 h.1))
    rw [headV_no k1] at *
    simp only [List.length_nil] at *
    clear hv3 hb3 k1
    go_wp2_with fail
    go_ret
    rw [HE.out]
    exact BytesPost.nil HB3.out
  rw [headV_yes k1] at *
  have hpos : 0 < (headB 128 0 ts fr).length := by rw [headB_len]; omega
  have hlen : (headB 128 0 ts fr).length ≤ 47 := by rw [headB_len]; have := k1.1; have := k1.2; omega
  obtain ⟨M, hM⟩ : ∃ M, M = (headB 128 0 ts fr).length := ⟨_, rfl⟩
  have HV3 := Lib.hid hv3
  have HM := Lib.hid hM
  rw [← hM] at hpos hlen HV3 ⊢
  have hm0 : ((M : Int) == 0) = false := by simp; omega
  have HK := Lib.hid k1
  clear hv3 k1 hM
  by_cases k2 : n3 < 1
  · have HE := Lib.hid (listB_no (ts := ts) (fr := fr) (vs := vs) (fun h => by have := h.2.1; have := L3.out; omega))
    go_wp2_with fail
    go_ret
    rw [HE.out]
    exact BytesPost.nil HB3.out
  by_cases k3 : 16 < n3
  · have HE := Lib.hid (listB_no (ts := ts) (fr := fr) (vs := vs) (fun h => by have := h.2.2.1; have := L3.out; omega))
    go_wp2_with fail
    go_ret
    rw [HE.out]
    exact BytesPost.nil HB3.out
  have HB3' := Lib.hid hb3
  have HSW := Lib.hid hsW
  clear hb3 hsW
  go_wp2_with fail
  go_loopw [3, 29] (fun v i wr => ∃ k : Nat, k ≤ n3 ∧ i = .int .i64 k ∧ OwnI wr W.heap.size .u8 v (headB 128 0 ts fr ++ bigs (vs.take k)) ∧ Below W.heap.size W wr ∧ Hid (∀ j, j < k → VerOk (nth vs j))) (fun _ i _ => n3 - (intOf i).toNat)
  case atStart => exact ⟨0, Nat.zero_le _, rfl, by have := HV3.out; rw [HM.out] at this ⊢; simpa [bigs] using this, HB3'.out, fun j hj => by omega⟩
  case round =>
    obtain ⟨k, hk, rfl, hv, hb, hok⟩ := hrel
    have HV := Lib.hid hv
    have HB := Lib.hid hb
    clear hv hb
    by_cases hlt : k < n3
    · have HR := Lib.hid ((H3.out.below HBW.out).below HB.out)
      obtain ⟨b, o, rfl, hcx⟩ := RdI.at_ HR.out.cell (by have := L3.out; omega)
      have g1 := hcx k (by have := L3.out; omega)
      clear hcx
      have hk0 : (0 : Int) ≤ (k : Int) := by omega
      have hk1 : (k : Int) < (n3 : Int) := by omega
      go_wp2_with fail
      refine (version_any (nth vs k) wr).mono ?_
      rintro e w5 ⟨rfl, rfl⟩
      by_cases hz : VerOk (nth vs k)
      · have HZ := Lib.hid hz
        rw [decide_eq_true hz]
        clear hz
        go_wp2_with fail
        refine (big_any (nth vs k) wr).mono ?_
        rintro e w6 ⟨v6, rfl, hv6, hb6⟩
        obtain ⟨A6, c6, rfl⟩ := hv6.slice
        have R6 := Lib.hid (hv6.rds (B' := 0)).cell
        have HV6 := Lib.hid (HV.out.below hb6)
        have HB6 := Lib.hid (below_next HB.out HB.out.size hb6)
        have hle : (headB 128 0 ts fr ++ bigs (vs.take k)).length ≤ 1000 := by have := HM.out; simp [bigs_len]; omega
        rw [bigB_len] at *
        clear hv6 hb6
        go_wp2_with (at_builtin; refine wp_app_u8 rfl _ _ rfl rfl rfl HV6.out R6.out (bigB_len _) HB6.out.size (by omega) ?_)
        intro v' w7 hv7 hg7 hb7
        have HV7 : Hid (OwnI w7 W.heap.size .u8 v' (headB 128 0 ts fr ++ bigs (vs.take (k + 1)))) := by
          rw [bigs_take (by have := L3.out; omega)]
          exact hv7
        have HB7 := Lib.hid (HB6.out.trans hb7)
        clear hv7 hg7 hb7 hle
        go_wp2_with fail
        go_roundw
        case rel => exact ⟨k + 1, by omega, by go_num, HV7.out, HB7.out, fun j hj => by
          rcases Nat.lt_or_ge j k with h | h
          · exact hok.out j h
          · obtain rfl : j = k := by omega
            exact HZ.out⟩
        case measure => simp [intOf]; omega
      · have HE := Lib.hid (listB_no (ts := ts) (fr := fr) (vs := vs) (fun h => hz (h.2.2.2 _ (nth_mem (by have := L3.out; omega)))))
        rw [decide_eq_false hz]
        clear hz
        go_wp2_with fail
        go_ret
        rw [HE.out]
        exact BytesPost.nil (HBW.out.trans (HB.out.mono (by have := HSW.out; omega)))
    · obtain rfl : k = n3 := by omega
      have HE : Hid (headB 128 0 ts fr ++ bigs (vs.take k) = listB ts fr vs) := by
        show _ = _
        rw [List.take_of_length_le (by have := L3.out; omega), listB_yes]
        refine ⟨HK.out, by have := L3.out; omega, by have := L3.out; omega, fun v hv => ?_⟩
        obtain ⟨j, hj, rfl⟩ := List.mem_iff_getElem.1 hv
        have := hok.out j (by have := L3.out; omega)
        have e := nth_lt hj
        rw [List.getElem?_eq_getElem hj] at e
        rw [Option.some.inj e]
        exact this
      go_wp2_with fail
      go_ret
      rw [← HE.out]
      exact ⟨_, rfl, HV.out.mono (by have := HSW.out; omega), HBW.out.trans (HB.out.mono (by have := HSW.out; omega))⟩
end Go.Proofs.Ytbcicfgffjgpdaa

/- What body and WriteRetry of layer 8 do. No condition. -/
set_option linter.unusedVariables false
set_option linter.unusedSimpArgs false
namespace Go.Proofs.Ytbcicfgffjgpdaa
open Go Go.RowKit

theorem beq_zero {n : Nat} (h : 0 < n) : ((n : Int) == 0) = false := by simp; omega
theorem bodyB_no {ver : Int} {ts fr : List Int} {token : Int} (h : ¬ BodyOk ver ts fr token) : bodyB ver ts fr token = [] := if_neg h
theorem bodyB_yes {ver : Int} {ts fr : List Int} {token : Int} (h : BodyOk ver ts fr token) : bodyB ver ts fr token = headB 240 ver ts fr ++ numB token := if_pos h
theorem bodyB_len {ver : Int} {ts fr : List Int} {token : Int} (h : BodyOk ver ts fr token) : (bodyB ver ts fr token).length = 11 + ts.length + fr.length := by
  rw [bodyB_yes h, List.length_append, headB_len, numB_yes h.2.2.1 h.2.2.2]
  simp; omega
theorem numB_four {h : Int} (h0 : 1 ≤ h) (h1 : h ≤ 65536) : (numB h).length = 4 := by rw [numB_yes h0 h1]; rfl
set_option maxHeartbeats 3200000 in
set_option maxRecDepth 100000 in
theorem body_any {B1 B2 : Nat} (ver token tag : Int) (A1 A2 : Option Addr) (n1 n2 c1 c2 : Nat) (ts fr : List Int) (w : World) (h1 : Rds B1 w .u8 A1 n1 c1 ts) (h2 : Rds B2 w .u8 A2 n2 c2 fr) :
    Calls Try.prog 50 #[.agg #[.int .i64 ver, .slice A1 n1 c1, .slice A2 n2 c2, .int .i64 token, .int .i64 tag]] w (BytesPost (bodyB ver ts fr token) w) := by
  have H1 := Lib.hid h1
  have H2 := Lib.hid h2
  clear h1 h2
  obtain ⟨W, hW⟩ : ∃ W, W = w.alloc (.cells #[.int .i64 ver, .slice A1 n1 c1, .slice A2 n2 c2, .int .i64 token, .int .i64 tag] 58) := ⟨_, rfl⟩
  have HBW : Hid (Below w.heap.size w W) := by rw [hW]; exact below_new _
  have hsW : W.heap.size = w.heap.size + 1 := by rw [hW]; simp
  have x0 : W.cell? ⟨w.heap.size, 0, none⟩ = some (.int .i64 ver) := by rw [hW]; simp [go_sem]
  have x1 : W.cell? ⟨w.heap.size, 1, none⟩ = some (.slice A1 n1 c1) := by rw [hW]; simp [go_sem]
  have x2 : W.cell? ⟨w.heap.size, 2, none⟩ = some (.slice A2 n2 c2) := by rw [hW]; simp [go_sem]
  have x3 : W.cell? ⟨w.heap.size, 3, none⟩ = some (.int .i64 token) := by rw [hW]; simp [go_sem]
  have HSW := Lib.hid hsW
  clear hsW
  go_enter Try.func50, Try.ntmps50
  go_wp2_with fail
  rw [← hW]
  clear hW
  go_region_held3 (fun w' => w'.cell? ⟨w.heap.size, 0, none⟩ = some (.int .i64 ver) ∧ w'.cell? ⟨w.heap.size, 1, none⟩ = some (.slice A1 n1 c1) ∧ w'.cell? ⟨w.heap.size, 2, none⟩ = some (.slice A2 n2 c2) ∧ w'.cell? ⟨w.heap.size, 3, none⟩ = some (.int .i64 token))
    (first | exact ⟨y0, y1, y2, y3⟩ | exact ⟨z0, z1, z2, z3⟩ | go_keep) ((first
    | (go_at_call 56
       refine (head_any 240 ver A1 A2 n1 n2 c1 c2 ts fr W.drew ((H1.out.below HBW.out).below ((Below.refl _ _).drew)) ((H2.out.below HBW.out).below ((Below.refl _ _).drew))).mono ?_
       rintro e w3 ⟨v3, rfl, hv3, hb3⟩
       have y0 := later_cell hb3 x0 (by simp; have := HSW.out; omega)
       have y1 := later_cell hb3 x1 (by simp; have := HSW.out; omega)
       have y2 := later_cell hb3 x2 (by simp; have := HSW.out; omega)
       have y3 := later_cell hb3 x3 (by simp; have := HSW.out; omega)
       have HB3 : Hid (Below W.heap.size W w3) := (Below.drew (Below.refl W.heap.size W)).trans hb3
       have HV3 : Hid (OwnI w3 W.heap.size .u8 v3 (headV 240 ver ts fr)) := hv3
       clear hv3 hb3)
    | (go_at_call 57
       refine (number_any token w3).mono ?_
       rintro e w4 ⟨v4, rfl, hv4, hb4⟩
       have hs34 := HB3.out.size
       have z0 := later_cell hb4 y0 (by simp; have := HSW.out; omega)
       have z1 := later_cell hb4 y1 (by simp; have := HSW.out; omega)
       have z2 := later_cell hb4 y2 (by simp; have := HSW.out; omega)
       have z3 := later_cell hb4 y3 (by simp; have := HSW.out; omega)
       have HB4 := Lib.hid (below_next HB3.out HB3.out.size hb4)
       have HV4 : Hid (OwnI w4 W.heap.size .u8 v4 (numB token)) := hv4.mono HB3.out.size
       have HV34 := Lib.hid (HV3.out.below hb4)
       clear hv4 hb4)))
  all_goals
    obtain ⟨A3, c3, rfl⟩ := HV34.out.slice
    obtain ⟨A4, c4, rfl⟩ := HV4.out.slice
    have HB04 := Lib.hid (HBW.out.trans (HB4.out.mono (by have := HSW.out; omega)))
    clear x0 x1 x2 x3 y0 y1 y2 y3 z1 z2 z3 hs34
    by_cases k1 : NamesOk ts fr
    rotate_left
    · have HE := Lib.hid (bodyB_no (ver := ver) (token := token) (fun h => k1 h.1))
      rw [headV_no k1] at *
      simp only [List.length_nil] at *
      clear k1
      go_wp2_with fail
      go_ret
      rw [HE.out]
      exact BytesPost.nil HB04.out
    by_cases k2 : 1 ≤ token ∧ token ≤ 65536
    rotate_left
    · have HE := Lib.hid (bodyB_no (ver := ver) (ts := ts) (fr := fr) (token := token) (fun h => k2 h.2.2))
      rw [headV_yes k1] at *
      have hm : (((headB 240 ver ts fr).length : Int) == 0) = false := beq_zero (by have := headB_len 240 ver ts fr; omega)
      rw [numB_no k2] at *
      simp only [List.length_nil] at *
      clear k1 k2
      go_wp2_with fail
      go_ret
      rw [HE.out]
      exact BytesPost.nil HB04.out
    by_cases k3 : VerOk ver
    rotate_left
    · have HE := Lib.hid (bodyB_no (ts := ts) (fr := fr) (token := token) (fun h => k3 h.2.1))
      rw [headV_yes k1] at *
      have hm : (((headB 240 ver ts fr).length : Int) == 0) = false := beq_zero (by have := headB_len 240 ver ts fr; omega)
      have HV5 := HV4
      rw [numB_four k2.1 k2.2] at *
      clear k1 k2
      have hv5 := version_any ver w4
      rw [decide_eq_false k3] at hv5
      clear k3
      go_wp2_with fail
      refine hv5.mono ?_
      rintro e w5 ⟨rfl, rfl⟩
      go_wp2_with fail
      go_ret
      rw [HE.out]
      exact BytesPost.nil HB04.out
    have HE := Lib.hid (bodyB_yes (ver := ver) (ts := ts) (fr := fr) (token := token) ⟨k1, k3, k2⟩)
    rw [headV_yes k1] at *
    have hlen : (headB 240 ver ts fr).length ≤ 47 := by rw [headB_len]; have := k1.1; have := k1.2; omega
    have hm : (((headB 240 ver ts fr).length : Int) == 0) = false := beq_zero (by have := headB_len 240 ver ts fr; omega)
    have R4 := Lib.hid (HV4.out.rds (B' := 0)).cell
    have N4 := Lib.hid (numB_four k2.1 k2.2)
    rw [N4.out]
    have hv5 := version_any ver w4
    rw [decide_eq_true k3] at hv5
    obtain ⟨M, hM⟩ : ∃ M, M = (headB 240 ver ts fr).length := ⟨_, rfl⟩
    have HV34' := HV34
    have hs4 := HB04.out.size
    have HS4 := Lib.hid (show W.heap.size ≤ w4.heap.size from HB4.out.size)
    rw [← hM] at hlen hm HV34 ⊢
    have HM := Lib.hid hM
    clear k1 k2 k3 hM HV34' HV3 HV4
    go_wp2_with fail
    refine hv5.mono ?_
    rintro e w5 ⟨rfl, rfl⟩
    go_wp2_with (at_builtin; refine wp_app_u8 rfl _ _ rfl rfl rfl HV34.out R4.out N4.out HS4.out (by have := HM.out; omega) ?_)
    intro v' w7 hv7 hg7 hb7
    have HV7 := Lib.hid hv7
    have HB7 := Lib.hid hb7
    clear hv7 hg7 hb7
    go_wp2_with fail
    go_ret
    rw [HE.out]
    exact ⟨_, rfl, HV7.out.mono (by have := HSW.out; omega), HB04.out.trans (HB7.out.mono (by have := HSW.out; omega))⟩

theorem retryB_no {ver : Int} {ts fr : List Int} {token tag : Int} (h : ¬ (BodyOk ver ts fr token ∧ 1 ≤ tag ∧ tag ≤ 65536)) : retryB ver ts fr token tag = [] := if_neg h
theorem retryB_yes {ver : Int} {ts fr : List Int} {token tag : Int} (h : BodyOk ver ts fr token ∧ 1 ≤ tag ∧ tag ≤ 65536) : retryB ver ts fr token tag = bodyB ver ts fr token ++ numB tag := if_pos h
end Go.Proofs.Ytbcicfgffjgpdaa

/- What the functions of layer 15 do with a table. No condition. -/
set_option linter.unusedVariables false
set_option linter.unusedSimpArgs false
namespace Go.Proofs.Ytbcicfgffjgpdaa
open Go Go.RowKit Go.WideMaps

/-- "client in" -/
def lbClientIn : ByteArray := ⟨#[99, 108, 105, 101, 110, 116, 32, 105, 110]⟩
/-- "server in" -/
def lbServerIn : ByteArray := ⟨#[115, 101, 114, 118, 101, 114, 32, 105, 110]⟩
/-- "early" -/
def lbEarly : ByteArray := ⟨#[101, 97, 114, 108, 121]⟩
/-- "client early" -/
def lbClientEarly : ByteArray := ⟨#[99, 108, 105, 101, 110, 116, 32, 101, 97, 114, 108, 121]⟩
/-- "handshake" -/
def lbHandshake : ByteArray := ⟨#[104, 97, 110, 100, 115, 104, 97, 107, 101]⟩
/-- "client hs" -/
def lbClientHs : ByteArray := ⟨#[99, 108, 105, 101, 110, 116, 32, 104, 115]⟩
/-- "server hs" -/
def lbServerHs : ByteArray := ⟨#[115, 101, 114, 118, 101, 114, 32, 104, 115]⟩
/-- "main" -/
def lbMain : ByteArray := ⟨#[109, 97, 105, 110]⟩
/-- "client app" -/
def lbClientApp : ByteArray := ⟨#[99, 108, 105, 101, 110, 116, 32, 97, 112, 112]⟩
/-- "server app" -/
def lbServerApp : ByteArray := ⟨#[115, 101, 114, 118, 101, 114, 32, 97, 112, 112]⟩
/-- "resume" -/
def lbResume : ByteArray := ⟨#[114, 101, 115, 117, 109, 101]⟩
/-- "finished" -/
def lbFinished : ByteArray := ⟨#[102, 105, 110, 105, 115, 104, 101, 100]⟩
/-- "binder" -/
def lbBinder : ByteArray := ⟨#[98, 105, 110, 100, 101, 114]⟩
/-- "none" -/
def lbNone : ByteArray := ⟨#[110, 111, 110, 101]⟩
/-- "server proof" -/
def lbServerProof : ByteArray := ⟨#[115, 101, 114, 118, 101, 114, 32, 112, 114, 111, 111, 102]⟩

def Fit (x : Int) : Prop := -9223372036854775808 ≤ x ∧ x ≤ 9223372036854775807
theorem fit_of {x : Int} (h : 0 ≤ x ∧ x ≤ 65536) : Fit x := ⟨by omega, by omega⟩
theorem deriveT_range {T : List Nd} {s c : Int} {l : ByteArray} (hT : T.length ≤ 65533) : 0 ≤ (deriveT T s l c).2 ∧ (deriveT T s l c).2 ≤ 65536 := by
  unfold deriveT
  have h1 : Ext 1 T (ctxT T c).1 := by
    unfold ctxT
    split
    · exact textT_ext _ _
    · exact (Ext.refl _).mono (by omega)
  have h2 := (h1.trans (textT_ext (ctxT T c).1 l)).len
  exact makeT_range (by omega)
def behindT (T : List Nd) (l : ByteArray) (s tr : Int) : List Nd × Int := if tr = 0 then (T, 0) else deriveT T s l tr
def pairT (T : List Nd) (l1 l2 : ByteArray) (s tr : Int) : List Nd × Int × Int := ((behindT (behindT T l1 s tr).1 l2 s tr).1, (behindT T l1 s tr).2, (behindT (behindT T l1 s tr).1 l2 s tr).2)
def firstT (T : List Nd) (g : ByteArray) : List Nd × Int × Int := ((deriveT (deriveT (textT T g).1 (textT T g).2 lbClientIn 0).1 (textT T g).2 lbServerIn 0).1, (deriveT (textT T g).1 (textT T g).2 lbClientIn 0).2, (deriveT (deriveT (textT T g).1 (textT T g).2 lbClientIn 0).1 (textT T g).2 lbServerIn 0).2)
def noneT (T : List Nd) (h : Int) : List Nd × Int := if h = 0 then textT T lbNone else (T, h)
def earlyT (T : List Nd) (h : Int) : List Nd × Int := deriveT (noneT T h).1 (noneT T h).2 lbEarly 0
def shakenT (T : List Nd) (e s : Int) : List Nd × Int := deriveT (makeT T 3 [e, s]).1 (makeT T 3 [e, s]).2 lbHandshake 0
def macT (T : List Nd) (l : ByteArray) (k tr : Int) : List Nd × Int := makeT (deriveT T k l 0).1 5 [(deriveT T k l 0).2, tr]
def signedT (T : List Nd) (tr : Int) : List Nd × Int := makeT (textT T lbServerProof).1 3 [(textT T lbServerProof).2, tr]
/-- Is a term the mac of a transcript by a key? -/
def macedT (T : List Nd) (k tr m : Int) : Bool := match getT T m with | some n => decide (n.kind = 5 ∧ nth n.parts 0 = k ∧ nth n.parts 1 = tr) | none => false

def TabPost2 (B tb : Nat) (w : World) (r : List Nd × Int × Int) (e : Ending) (w' : World) : Prop := e = .returned (.tuple #[.int .i64 r.2.1, .int .i64 r.2.2]) ∧ IsTab B w' tb r.1 ∧ Frm tabO B w w'
theorem TabPost2.intro {B tb : Nat} {w w' : World} {T : List Nd} {h g : Int} {r : List Nd × Int × Int} {e : Ending} (hr : r = (T, h, g)) (p : TabPost2 B tb w r e w') : e = .returned (.tuple #[.int .i64 h, .int .i64 g]) ∧ IsTab B w' tb T ∧ Frm tabO B w w' := by
  subst hr; exact p
theorem TabPost.of {B tb : Nat} {w w1 w' : World} {r : List Nd × Int} {e : Ending} (hf : Frm tabO B w w1) (p : TabPost B tb w1 r e w') : ∃ T h, r = (T, h) ∧ e = .returned (.int .i64 h) ∧ IsTab B w' tb T ∧ Frm tabO B w w' := ⟨r.1, r.2, rfl, p.1, p.2.1, hf.trans p.2.2⟩
theorem make_fit {B tb g t : Nat} {T : List Nd} (kind : Int) (xs : List Int) (w : World) (ht : IsTab B w tb T) (hg : w.heap.size = g) (hx : ∀ x ∈ xs, Fit x) (hn : xs.length ≤ 1000000) (cs : Array Value) (hc : cs = (xs.map (Value.int .i64)).toArray) (hs : spT t = false) (n : Nat) (hl : xs.length = n) :
    Calls Try.prog 28 #[.pointer (some ⟨tb, 0, none⟩), .int .i64 kind, .slice (some ⟨g, 0, none⟩) n n] (w.alloc (.cells cs t)) (TabPost B tb w (makeT T kind xs)) := make_lit kind xs w ht hg hx hn cs hc hs n hl

set_option maxHeartbeats 400000 in
theorem begin_any {B tb : Nat} {T : List Nd} (w : World) (ht : IsTab B w tb T) : Calls Try.prog 11 #[.pointer (some ⟨tb, 0, none⟩)] w (TabPost B tb w (beginT T)) := by
  have key := text_any none 0 0 [] w ht (Rds.nil 0 _ _)
  clear ht
  go_enter Try.func11, Try.ntmps11
  go_wp2_with fail
  refine key.mono ?_
  clear key
  rintro e w1 p
  have P := Lib.hid p
  obtain ⟨rfl, -, -⟩ := p
  go_wp2_with fail
  go_ret
  exact P.out

set_option maxHeartbeats 800000 in
set_option maxRecDepth 100000 in
theorem next_any {B B' tb : Nat} {T : List Nd} (tr : Int) (A : Option Addr) (n c : Nat) (xs : List Int) (w : World) (ht : IsTab B w tb T) (hr : Rds B' w .u8 A n c xs) (hf : Fit tr) :
    Calls Try.prog 12 #[.pointer (some ⟨tb, 0, none⟩), .int .i64 tr, .slice A n c] w (TabPost B tb w (nextT T tr (strOfNums xs))) := by
  have key := text_any A n c xs w ht hr
  have HTl := Lib.hid ht.1.len
  have HF := Lib.hid hf
  clear ht hr hf
  go_enter Try.func12, Try.ntmps12
  go_wp2_with fail
  refine key.mono ?_
  clear key
  rintro e w1 p1
  have r1 := Lib.hid (textT_range (T := T) (b := strOfNums xs) HTl.out)
  obtain ⟨T1, h1, e1, rfl, ht1, hf1⟩ := TabPost.of (Frm.refl _ _ _) p1
  rw [e1] at r1
  have E1 := Lib.hid e1
  have HF1 := Lib.hid hf1
  have HT1 := Lib.hid ht1.1.len
  have key := make_fit (g := w1.heap.size) (t := 25) 3 [tr, h1] w1 ht1 rfl (by have := r1.out; simp; exact ⟨HF.out, fit_of this⟩) (by simp) _ rfl (by decide) 2 rfl
  clear p1 e1 ht1 hf1
  go_wp2_with fail
  refine key.mono ?_
  clear key
  rintro e w2 p2
  have r2 := Lib.hid (makeT_range (T := T1) (k := 3) (p := [tr, h1]) HT1.out)
  obtain ⟨T2, h2, e2, rfl, ht2, hf2⟩ := TabPost.of HF1.out p2
  rw [e2] at r2
  have E2 := Lib.hid e2
  have HF2 := Lib.hid hf2
  have key := make_fit (g := w2.heap.size) (t := 25) 4 [h2] w2 ht2 rfl (by have := r2.out; simp; exact fit_of this) (by simp) _ rfl (by decide) 1 rfl
  clear p2 e2 ht2 hf2
  go_wp2_with fail
  refine key.mono ?_
  clear key
  rintro e w3 p3
  have P3 := Lib.hid (tabPost_next HF2.out p3)
  obtain ⟨rfl, -, -⟩ := p3
  go_wp2_with fail
  go_ret
  have := P3.out
  unfold nextT
  rw [E1.out]
  simp only
  rw [E2.out]
  exact this

set_option maxHeartbeats 400000 in
theorem of_any {B tb : Nat} {T : List Nd} (l : ByteArray) (s c : Int) (w : World) (ht : IsTab B w tb T) (hs : Fit s) (hc : Fit c) (hl : l.size ≤ 1000000) :
    Calls Try.prog 42 #[.string l, .pointer (some ⟨tb, 0, none⟩), .int .i64 s, .int .i64 c] w (TabPost B tb w (deriveT T s l c)) := by
  have key := derive_any s l c w ht hs hc hl
  clear ht
  go_enter Try.func42, Try.ntmps42
  go_wp2_with fail
  refine key.mono ?_
  clear key
  rintro e w1 p
  have P := Lib.hid p
  obtain ⟨rfl, -, -⟩ := p
  go_wp2_with fail
  go_ret
  exact P.out

set_option maxHeartbeats 400000 in
theorem behind_any {B tb : Nat} {T : List Nd} (l : ByteArray) (s tr : Int) (w : World) (ht : IsTab B w tb T) (hs : Fit s) (hc : Fit tr) (hl : l.size ≤ 1000000) :
    Calls Try.prog 41 #[.func (.func 42) #[.string l] #[], .pointer (some ⟨tb, 0, none⟩), .int .i64 s, .int .i64 tr] w (TabPost B tb w (behindT T l s tr)) := by
  have key := of_any l s tr w ht hs hc hl
  by_cases h : tr = 0
  · subst h
    have HE : Hid (behindT T l s 0 = (T, 0)) := if_pos rfl
    have P := Lib.hid (tabPost_same (h := 0) ht (Below.refl _ _))
    clear key ht
    go_enter Try.func41, Try.ntmps41
    go_wp2_with fail
    go_ret
    rw [HE.out]
    exact P.out
  · have HE : Hid (behindT T l s tr = deriveT T s l tr) := if_neg h
    have hb : (tr == 0) = false := by simp [h]
    clear ht h
    go_enter Try.func41, Try.ntmps41
    go_wp2_with fail
    refine key.mono ?_
    clear key
    rintro e w1 p
    have P := Lib.hid p
    obtain ⟨rfl, -, -⟩ := p
    go_wp2_with fail
    go_ret
    rw [HE.out]
    exact P.out


set_option maxHeartbeats 800000 in
theorem mainTraffic_any {B tb : Nat} {T : List Nd} (s tr : Int) (w : World) (ht : IsTab B w tb T) (hs : Fit s) (hc : Fit tr) :
    Calls Try.prog 14 #[.pointer (some ⟨tb, 0, none⟩), .int .i64 s, .int .i64 tr] w (TabPost2 B tb w (pairT T lbClientApp lbServerApp s tr)) := by
  have HS := Lib.hid hs
  have HC := Lib.hid hc
  have key := behind_any lbClientApp s tr w ht hs hc (by decide)
  clear ht hs hc
  go_enter Try.func14, Try.ntmps14
  go_wp2_with fail
  refine key.mono ?_
  clear key
  rintro e w1 p1
  obtain ⟨T1, h1, e1, rfl, ht1, hf1⟩ := TabPost.of (Frm.refl _ _ _) p1
  have E1 := Lib.hid e1
  have HF1 := Lib.hid hf1
  have key := behind_any lbServerApp s tr w1 ht1 HS.out HC.out (by decide)
  clear p1 e1 ht1 hf1
  go_wp2_with fail
  refine key.mono ?_
  clear key
  rintro e w2 p2
  obtain ⟨T2, h2, e2, rfl, ht2, hf2⟩ := TabPost.of HF1.out p2
  have E2 := Lib.hid e2
  have HF2 := Lib.hid hf2
  have HT2 := Lib.hid ht2
  clear p2 e2 ht2 hf2
  go_wp2_with fail
  go_ret2
  unfold TabPost2 pairT
  rw [E1.out]
  simp only
  rw [E2.out]
  exact ⟨rfl, HT2.out, HF2.out⟩


set_option maxHeartbeats 800000 in
theorem shakenTraffic_any {B tb : Nat} {T : List Nd} (s tr : Int) (w : World) (ht : IsTab B w tb T) (hs : Fit s) (hc : Fit tr) :
    Calls Try.prog 24 #[.pointer (some ⟨tb, 0, none⟩), .int .i64 s, .int .i64 tr] w (TabPost2 B tb w (pairT T lbClientHs lbServerHs s tr)) := by
  have HS := Lib.hid hs
  have HC := Lib.hid hc
  have key := behind_any lbClientHs s tr w ht hs hc (by decide)
  clear ht hs hc
  go_enter Try.func24, Try.ntmps24
  go_wp2_with fail
  refine key.mono ?_
  clear key
  rintro e w1 p1
  obtain ⟨T1, h1, e1, rfl, ht1, hf1⟩ := TabPost.of (Frm.refl _ _ _) p1
  have E1 := Lib.hid e1
  have HF1 := Lib.hid hf1
  have key := behind_any lbServerHs s tr w1 ht1 HS.out HC.out (by decide)
  clear p1 e1 ht1 hf1
  go_wp2_with fail
  refine key.mono ?_
  clear key
  rintro e w2 p2
  obtain ⟨T2, h2, e2, rfl, ht2, hf2⟩ := TabPost.of HF1.out p2
  have E2 := Lib.hid e2
  have HF2 := Lib.hid hf2
  have HT2 := Lib.hid ht2
  clear p2 e2 ht2 hf2
  go_wp2_with fail
  go_ret2
  unfold TabPost2 pairT
  rw [E1.out]
  simp only
  rw [E2.out]
  exact ⟨rfl, HT2.out, HF2.out⟩


set_option maxHeartbeats 400000 in
theorem earlyTraffic_any {B tb : Nat} {T : List Nd} (s tr : Int) (w : World) (ht : IsTab B w tb T) (hs : Fit s) (hc : Fit tr) :
    Calls Try.prog 18 #[.pointer (some ⟨tb, 0, none⟩), .int .i64 s, .int .i64 tr] w (TabPost B tb w (behindT T lbClientEarly s tr)) := by
  have key := behind_any lbClientEarly s tr w ht hs hc (by decide)
  clear ht
  go_enter Try.func18, Try.ntmps18
  go_wp2_with fail
  refine key.mono ?_
  clear key
  rintro e w1 p
  have P := Lib.hid p
  obtain ⟨rfl, -, -⟩ := p
  go_wp2_with fail
  go_ret
  exact P.out


set_option maxHeartbeats 400000 in
theorem resume_any {B tb : Nat} {T : List Nd} (s tr : Int) (w : World) (ht : IsTab B w tb T) (hs : Fit s) (hc : Fit tr) :
    Calls Try.prog 27 #[.pointer (some ⟨tb, 0, none⟩), .int .i64 s, .int .i64 tr] w (TabPost B tb w (behindT T lbResume s tr)) := by
  have key := behind_any lbResume s tr w ht hs hc (by decide)
  clear ht
  go_enter Try.func27, Try.ntmps27
  go_wp2_with fail
  refine key.mono ?_
  clear key
  rintro e w1 p
  have P := Lib.hid p
  obtain ⟨rfl, -, -⟩ := p
  go_wp2_with fail
  go_ret
  exact P.out


set_option maxHeartbeats 400000 in
theorem main_any {B tb : Nat} {T : List Nd} (s : Int) (w : World) (ht : IsTab B w tb T) (hs : Fit s) :
    Calls Try.prog 25 #[.pointer (some ⟨tb, 0, none⟩), .int .i64 s] w (TabPost B tb w (deriveT T s lbMain 0)) := by
  have key := of_any lbMain s 0 w ht hs (fit_of (by omega)) (by decide)
  clear ht
  go_enter Try.func25, Try.ntmps25
  go_wp2_with fail
  refine key.mono ?_
  clear key
  rintro e w1 p
  have P := Lib.hid p
  obtain ⟨rfl, -, -⟩ := p
  go_wp2_with fail
  go_ret
  exact P.out


set_option maxHeartbeats 800000 in
theorem finished_any {B tb : Nat} {T : List Nd} (k tr : Int) (w : World) (ht : IsTab B w tb T) (hs : Fit k) (hc : Fit tr) (hT : T.length ≤ 65533) :
    Calls Try.prog 15 #[.pointer (some ⟨tb, 0, none⟩), .int .i64 k, .int .i64 tr] w (TabPost B tb w (macT T lbFinished k tr)) := by
  have HC := Lib.hid hc
  have key := of_any lbFinished k 0 w ht hs (fit_of (by omega)) (by decide)
  clear ht hc
  go_enter Try.func15, Try.ntmps15
  go_wp2_with fail
  refine key.mono ?_
  clear key
  rintro e w1 p1
  have r1 := Lib.hid (deriveT_range (T := T) (s := k) (c := 0) (l := lbFinished) hT)
  obtain ⟨T1, h1, e1, rfl, ht1, hf1⟩ := TabPost.of (Frm.refl _ _ _) p1
  rw [e1] at r1
  have E1 := Lib.hid e1
  have HF1 := Lib.hid hf1
  have key := make_fit (g := w1.heap.size) (t := 25) 5 [h1, tr] w1 ht1 rfl (by have := r1.out; simp; exact ⟨fit_of this, HC.out⟩) (by simp) _ rfl (by decide) 2 rfl
  clear p1 e1 ht1 hf1
  go_wp2_with fail
  refine key.mono ?_
  clear key
  rintro e w3 p3
  have P3 := Lib.hid (tabPost_next HF1.out p3)
  obtain ⟨rfl, -, -⟩ := p3
  go_wp2_with fail
  go_ret
  have := P3.out
  unfold macT
  rw [E1.out]
  exact this


set_option maxHeartbeats 800000 in
theorem binder_any {B tb : Nat} {T : List Nd} (k tr : Int) (w : World) (ht : IsTab B w tb T) (hs : Fit k) (hc : Fit tr) (hT : T.length ≤ 65533) :
    Calls Try.prog 19 #[.pointer (some ⟨tb, 0, none⟩), .int .i64 k, .int .i64 tr] w (TabPost B tb w (macT T lbBinder k tr)) := by
  have HC := Lib.hid hc
  have key := of_any lbBinder k 0 w ht hs (fit_of (by omega)) (by decide)
  clear ht hc
  go_enter Try.func19, Try.ntmps19
  go_wp2_with fail
  refine key.mono ?_
  clear key
  rintro e w1 p1
  have r1 := Lib.hid (deriveT_range (T := T) (s := k) (c := 0) (l := lbBinder) hT)
  obtain ⟨T1, h1, e1, rfl, ht1, hf1⟩ := TabPost.of (Frm.refl _ _ _) p1
  rw [e1] at r1
  have E1 := Lib.hid e1
  have HF1 := Lib.hid hf1
  have key := make_fit (g := w1.heap.size) (t := 25) 5 [h1, tr] w1 ht1 rfl (by have := r1.out; simp; exact ⟨fit_of this, HC.out⟩) (by simp) _ rfl (by decide) 2 rfl
  clear p1 e1 ht1 hf1
  go_wp2_with fail
  refine key.mono ?_
  clear key
  rintro e w3 p3
  have P3 := Lib.hid (tabPost_next HF1.out p3)
  obtain ⟨rfl, -, -⟩ := p3
  go_wp2_with fail
  go_ret
  have := P3.out
  unfold macT
  rw [E1.out]
  exact this


set_option maxHeartbeats 800000 in
theorem shaken_any {B tb : Nat} {T : List Nd} (e0 s : Int) (w : World) (ht : IsTab B w tb T) (he : Fit e0) (hs : Fit s) :
    Calls Try.prog 20 #[.pointer (some ⟨tb, 0, none⟩), .int .i64 e0, .int .i64 s] w (TabPost B tb w (shakenT T e0 s)) := by
  have HTl := Lib.hid ht.1.len
  have key := make_fit (g := w.heap.size) (t := 25) 3 [e0, s] w ht rfl (by simp; exact ⟨he, hs⟩) (by simp) _ rfl (by decide) 2 rfl
  clear ht
  go_enter Try.func20, Try.ntmps20
  go_wp2_with fail
  refine key.mono ?_
  clear key
  rintro e w1 p1
  have r1 := Lib.hid (makeT_range (T := T) (k := 3) (p := [e0, s]) HTl.out)
  obtain ⟨T1, h1, e1, rfl, ht1, hf1⟩ := TabPost.of (Frm.refl _ _ _) p1
  rw [e1] at r1
  have E1 := Lib.hid e1
  have HF1 := Lib.hid hf1
  have key := of_any lbHandshake h1 0 w1 ht1 (fit_of r1.out) (fit_of (by omega)) (by decide)
  clear p1 e1 ht1 hf1
  go_wp2_with fail
  refine key.mono ?_
  clear key
  rintro e w3 p3
  have P3 := Lib.hid (tabPost_next HF1.out p3)
  obtain ⟨rfl, -, -⟩ := p3
  go_wp2_with fail
  go_ret
  have := P3.out
  unfold shakenT
  rw [E1.out]
  exact this

set_option maxHeartbeats 800000 in
theorem first_any {B B' tb : Nat} {T : List Nd} (A : Option Addr) (n c : Nat) (xs : List Int) (w : World) (ht : IsTab B w tb T) (hr : Rds B' w .u8 A n c xs) (hT : T.length ≤ 65530) :
    Calls Try.prog 31 #[.pointer (some ⟨tb, 0, none⟩), .slice A n c] w (TabPost2 B tb w (firstT T (strOfNums xs))) := by
  have HTl := Lib.hid ht.1.len
  have key := text_any A n c xs w ht hr
  clear ht hr
  go_enter Try.func31, Try.ntmps31
  go_wp2_with fail
  refine key.mono ?_
  clear key
  rintro e w1 p1
  have r1 := Lib.hid (textT_range (T := T) (b := strOfNums xs) HTl.out)
  obtain ⟨T1, h1, e1, rfl, ht1, hf1⟩ := TabPost.of (Frm.refl _ _ _) p1
  rw [e1] at r1
  have E1 := Lib.hid e1
  have HF1 := Lib.hid hf1
  have key := of_any lbClientIn h1 0 w1 ht1 (fit_of r1.out) (fit_of (by omega)) (by decide)
  clear p1 e1 ht1 hf1
  go_wp2_with fail
  refine key.mono ?_
  clear key
  rintro e w2 p2
  obtain ⟨T2, h2, e2, rfl, ht2, hf2⟩ := TabPost.of HF1.out p2
  have E2 := Lib.hid e2
  have HF2 := Lib.hid hf2
  have key := of_any lbServerIn h1 0 w2 ht2 (fit_of r1.out) (fit_of (by omega)) (by decide)
  clear p2 e2 ht2 hf2
  go_wp2_with fail
  refine key.mono ?_
  clear key
  rintro e w3 p3
  obtain ⟨T3, h3, e3, rfl, ht3, hf3⟩ := TabPost.of HF2.out p3
  have E3 := Lib.hid e3
  have HF3 := Lib.hid hf3
  have HT3 := Lib.hid ht3
  clear p3 e3 ht3 hf3
  go_wp2_with fail
  go_ret2
  unfold TabPost2 firstT
  rw [E1.out]
  simp only
  rw [E2.out]
  simp only
  rw [E3.out]
  exact ⟨rfl, HT3.out, HF3.out⟩
end Go.Proofs.Ytbcicfgffjgpdaa

/- What Early, Signed, maced, Finishes, Binds do; what the functions of layer 15 make of terms that are there. No condition. -/
set_option linter.unusedVariables false
set_option linter.unusedSimpArgs false
namespace Go.Proofs.Ytbcicfgffjgpdaa
open Go Go.RowKit Go.WideMaps

/-- A row of bytes just made, its cells marked or not. -/
theorem rds_marked {w : World} {B g t : Nat} {xs : List Int} (fr : Nat × Nat) (hg : w.heap.size = g) (ht : spT t = false) (cs : Array Value) (hc : cs = (xs.map (Value.int .u8)).toArray) (n : Nat) (hl : xs.length = n) (hm : n ≤ 1000000) :
    Rds B (w.alloc (.cells cs t fr)) .u8 (some ⟨g, 0, none⟩) n n xs := by
  subst hg hc hl
  have hn : (w.alloc (.cells (xs.map (Value.int .u8)).toArray t fr)).heap[w.heap.size]? = some (.cells (xs.map (Value.int .u8)).toArray t fr) := heap_alloc_new w _
  refine ⟨rfl, Nat.le_refl _, by omega, fun j hj => ⟨_, rfl, ?_⟩, fun _ a e => ?_⟩
  · rw [addr_add, Nat.zero_add, cell_of_row _ _ j _ _ _ hn]
    simp [List.getElem?_map, nth_lt hj]
  · cases e
    exact ⟨by simp, .inr ⟨_, _, _, hn, ht⟩⟩
theorem run_const_bytes (w : World) (C : Array Value) (n c : Nat) : (convert 27 27 (.slice (some ⟨w.heap.size, 0, none⟩) n c)).run Try.prog (w.alloc (.cells C 5)) = .ok (.slice (some ⟨w.heap.size, 0, none⟩) n c) (w.alloc (.cells C 5 (C.size, C.size + 1))) :=
  Lib.run_convert_bytes_const w 27 5 C n c Try.underlying27 Try.underlying5
def noneL : List Int := [110, 111, 110, 101]
theorem none_str : strOfNums noneL = lbNone := by decide
def proofL : List Int := [115, 101, 114, 118, 101, 114, 32, 112, 114, 111, 111, 102]
theorem proof_str : strOfNums proofL = lbServerProof := by decide

set_option maxHeartbeats 800000 in
set_option maxRecDepth 100000 in
theorem early_any {B tb : Nat} {T : List Nd} (h : Int) (w : World) (ht : IsTab B w tb T) (hf : Fit h) : Calls Try.prog 17 #[.pointer (some ⟨tb, 0, none⟩), .int .i64 h] w (TabPost B tb w (earlyT T h)) := by
  by_cases hz : h = 0
  · subst hz
    have HTl := Lib.hid ht.1.len
    have hconv := Lib.hid (run_const_bytes w #[.int .u8 110, .int .u8 111, .int .u8 110, .int .u8 101] 4 4)
    obtain ⟨W, hW⟩ : ∃ W, W = w.alloc (.cells #[.int .u8 110, .int .u8 111, .int .u8 110, .int .u8 101] 5 (4, 5)) := ⟨_, rfl⟩
    have hr : Rds 0 W .u8 (some ⟨w.heap.size, 0, none⟩) 4 4 noneL := by
      rw [hW]
      exact rds_marked (xs := noneL) (t := 5) (4, 5) rfl (by decide) _ rfl 4 rfl (by decide)
    have hbW : Below w.heap.size w W := by rw [hW]; exact below_new _
    have key := text_any (some ⟨w.heap.size, 0, none⟩) 4 4 noneL W (ht.below hbW) hr
    rw [none_str] at key
    have HBW := Lib.hid hbW
    clear ht hr hbW
    go_enter Try.func17, Try.ntmps17
    go_wp2_with ((with_reducible show wpList _ _ _ (Oper.mk _ (Op.convert 27 27 _) _ _ _ _ :: _) _ _); refine wp_convert rfl _ _ _ rfl rfl hconv.out ?_)
    rw [← hW]
    clear hW
    refine key.mono ?_
    clear key
    rintro e w1 p1
    have r1 := Lib.hid (textT_range (T := T) (b := lbNone) HTl.out)
    obtain ⟨T1, h1, e1, rfl, ht1, hf1⟩ := TabPost.of (Frm.of_below HBW.out) p1
    rw [e1] at r1
    have E1 : Hid (noneT T 0 = (T1, h1)) := e1
    have HF1 := Lib.hid hf1
    have key := of_any lbEarly h1 0 w1 ht1 (fit_of r1.out) (fit_of (by omega)) (by decide)
    clear p1 e1 ht1 hf1
    go_wp2_with fail
    refine key.mono ?_
    clear key
    rintro e w3 p3
    have P3 := Lib.hid (tabPost_next HF1.out p3)
    obtain ⟨rfl, -, -⟩ := p3
    go_wp2_with fail
    go_ret
    have := P3.out
    unfold earlyT
    rw [E1.out]
    exact this
  · have hb : (h == 0) = false := by simp [hz]
    have E1 : Hid (noneT T h = (T, h)) := if_neg hz
    have key := of_any lbEarly h 0 w ht hf (fit_of (by omega)) (by decide)
    clear ht hz
    go_enter Try.func17, Try.ntmps17
    go_wp2_with fail
    refine key.mono ?_
    clear key
    rintro e w3 p3
    have P3 := Lib.hid p3
    obtain ⟨rfl, -, -⟩ := p3
    go_wp2_with fail
    go_ret
    have := P3.out
    unfold earlyT
    rw [E1.out]
    exact this

set_option maxHeartbeats 800000 in
set_option maxRecDepth 100000 in
theorem signed_any {B tb : Nat} {T : List Nd} (tr : Int) (w : World) (ht : IsTab B w tb T) (hf : Fit tr) : Calls Try.prog 26 #[.pointer (some ⟨tb, 0, none⟩), .int .i64 tr] w (TabPost B tb w (signedT T tr)) := by
  have HTl := Lib.hid ht.1.len
  have hconv := Lib.hid (run_const_bytes w #[.int .u8 115, .int .u8 101, .int .u8 114, .int .u8 118, .int .u8 101, .int .u8 114, .int .u8 32, .int .u8 112, .int .u8 114, .int .u8 111, .int .u8 111, .int .u8 102] 12 12)
  obtain ⟨W, hW⟩ : ∃ W, W = w.alloc (.cells #[.int .u8 115, .int .u8 101, .int .u8 114, .int .u8 118, .int .u8 101, .int .u8 114, .int .u8 32, .int .u8 112, .int .u8 114, .int .u8 111, .int .u8 111, .int .u8 102] 5 (12, 13)) := ⟨_, rfl⟩
  have hr : Rds 0 W .u8 (some ⟨w.heap.size, 0, none⟩) 12 12 proofL := by
    rw [hW]
    exact rds_marked (xs := proofL) (t := 5) (12, 13) rfl (by decide) _ rfl 12 rfl (by decide)
  have hbW : Below w.heap.size w W := by rw [hW]; exact below_new _
  have key := text_any (some ⟨w.heap.size, 0, none⟩) 12 12 proofL W (ht.below hbW) hr
  rw [proof_str] at key
  have HBW := Lib.hid hbW
  have HF := Lib.hid hf
  clear ht hr hbW
  go_enter Try.func26, Try.ntmps26
  go_wp2_with ((with_reducible show wpList _ _ _ (Oper.mk _ (Op.convert 27 27 _) _ _ _ _ :: _) _ _); refine wp_convert rfl _ _ _ rfl rfl hconv.out ?_)
  rw [← hW]
  clear hW
  refine key.mono ?_
  clear key
  rintro e w1 p1
  have r1 := Lib.hid (textT_range (T := T) (b := lbServerProof) HTl.out)
  obtain ⟨T1, h1, e1, rfl, ht1, hf1⟩ := TabPost.of (Frm.of_below HBW.out) p1
  rw [e1] at r1
  have E1 := Lib.hid e1
  have HF1 := Lib.hid hf1
  have key := make_fit (g := w1.heap.size) (t := 25) 3 [h1, tr] w1 ht1 rfl (by have := r1.out; simp; exact ⟨fit_of this, HF.out⟩) (by simp) _ rfl (by decide) 2 rfl
  clear p1 e1 ht1 hf1
  go_wp2_with fail
  refine key.mono ?_
  clear key
  rintro e w3 p3
  have P3 := Lib.hid (tabPost_next HF1.out p3)
  obtain ⟨rfl, -, -⟩ := p3
  go_wp2_with fail
  go_ret
  have := P3.out
  unfold signedT
  rw [E1.out]
  exact this

def MacedPost (r : Bool) (w : World) (e : Ending) (w' : World) : Prop := e = .returned (.bool r) ∧ Below w.heap.size w w'
set_option maxHeartbeats 1600000 in
set_option maxRecDepth 100000 in
theorem maced_any {B tb : Nat} {T : List Nd} (k tr m : Int) (w : World) (ht : IsTab B w tb T) (hm : Fit m) :
    Calls Try.prog 43 #[.pointer (some ⟨tb, 0, none⟩), .int .i64 k, .int .i64 tr, .int .i64 m] w (MacedPost (macedT T k tr m) w) := by
  have key := look_any m w ht hm.1 hm.2
  have HW := Lib.hid ht.1
  clear ht
  go_enter Try.func43, Try.ntmps43
  go_wp2_with fail
  refine key.mono ?_
  clear key
  rintro e w1 ⟨A1, c1, rfl, ho1, hb1⟩
  have hs1 := hb1.size
  have HB1 := Lib.hid hb1
  cases hg : getT T m with
  | none =>
    have HE : Hid (macedT T k tr m = false) := by show _ = _; unfold macedT; rw [hg]
    rw [show nodeT T m = ⟨0, ByteArray.empty, []⟩ from by unfold nodeT; rw [hg]; rfl] at ho1 ⊢
    clear ho1 hb1 hg
    go_wp2_with fail
    go_returns
    rw [HE.out]
    exact ⟨rfl, HB1.out.alloc hs1 _⟩
  | some nd =>
    rw [show nodeT T m = nd from by unfold nodeT; rw [hg]; rfl] at ho1 ⊢
    have HG := Lib.hid (HW.out.get hg)
    have HE0 : Hid (macedT T k tr m = decide (nd.kind = 5 ∧ nth nd.parts 0 = k ∧ nth nd.parts 1 = tr)) := by show _ = _; unfold macedT; rw [hg]
    by_cases hk : nd.kind = 5
    rotate_left
    · have HE : Hid (macedT T k tr m = false) := by show _ = _; rw [HE0.out, decide_eq_false (fun h => hk h.1)]
      have hkb : (nd.kind == 5) = false := by simp [hk]
      clear ho1 hb1 hg hk
      go_wp2_with fail
      go_returns
      rw [HE.out]
      exact ⟨rfl, HB1.out.alloc hs1 _⟩
    have hl := (HG.out.k5 hk)
    have hkb : (nd.kind == 5) = true := by simp [hk]
    obtain ⟨g, cap, q1, q2, q3, q4, q5, q6, q7⟩ := ho1.form (by omega)
    rw [hl] at q1 q5 ⊢
    simp only [Value.slice.injEq] at q1
    obtain ⟨rfl, -, rfl⟩ := q1
    have x0 := q5 0 (by omega)
    have x1 := q5 1 (by omega)
    have HK := Lib.hid hk
    clear ho1 hb1 q4 q5 q6 q7 hg hk
    by_cases h0 : nth nd.parts 0 = k
    rotate_left
    · have HE : Hid (macedT T k tr m = false) := by show _ = _; rw [HE0.out, decide_eq_false (fun h => h0 h.2.1)]
      have h0b : (nth nd.parts 0 == k) = false := by simp [h0]
      clear h0
      go_wp2_with fail
      go_returns
      rw [HE.out]
      exact ⟨rfl, HB1.out.alloc hs1 _⟩
    have h0b : (nth nd.parts 0 == k) = true := by simp [h0]
    by_cases h1 : nth nd.parts 1 = tr
    rotate_left
    · have HE : Hid (macedT T k tr m = false) := by show _ = _; rw [HE0.out, decide_eq_false (fun h => h1 h.2.2)]
      have h1b : (nth nd.parts 1 == tr) = false := by simp [h1]
      clear h0 h1
      go_wp2_with fail
      go_returns
      rw [HE.out]
      exact ⟨rfl, HB1.out.alloc hs1 _⟩
    · have HE : Hid (macedT T k tr m = true) := by show _ = _; rw [HE0.out, decide_eq_true ⟨HK.out, h0, h1⟩]
      have h1b : (nth nd.parts 1 == tr) = true := by simp [h1]
      clear h0 h1
      go_wp2_with fail
      go_returns
      rw [HE.out]
      exact ⟨rfl, HB1.out.alloc hs1 _⟩

def askT (T : List Nd) (l : ByteArray) (k tr m : Int) : List Nd × Bool := ((deriveT T k l 0).1, macedT (deriveT T k l 0).1 (deriveT T k l 0).2 tr m)
def AskPost (B tb : Nat) (w : World) (r : List Nd × Bool) (e : Ending) (w' : World) : Prop := e = .returned (.bool r.2) ∧ IsTab B w' tb r.1 ∧ Frm tabO B w w'
theorem AskPost.intro {B tb : Nat} {w w' : World} {T : List Nd} {b : Bool} {r : List Nd × Bool} {e : Ending} (hr : r = (T, b)) (p : AskPost B tb w r e w') : e = .returned (.bool b) ∧ IsTab B w' tb T ∧ Frm tabO B w w' := by
  subst hr; exact p


set_option maxHeartbeats 800000 in
theorem finishes_any {B tb : Nat} {T : List Nd} (k tr m : Int) (w : World) (ht : IsTab B w tb T) (hk : Fit k) (hc : Fit tr) (hm : Fit m) :
    Calls Try.prog 22 #[.pointer (some ⟨tb, 0, none⟩), .int .i64 k, .int .i64 tr, .int .i64 m] w (AskPost B tb w (askT T lbFinished k tr m)) := by
  have key := of_any lbFinished k 0 w ht hk (fit_of (by omega)) (by decide)
  have HM := Lib.hid hm
  clear ht hm
  go_enter Try.func22, Try.ntmps22
  go_wp2_with fail
  refine key.mono ?_
  clear key
  rintro e w1 p1
  obtain ⟨T1, h1, e1, rfl, ht1, hf1⟩ := TabPost.of (Frm.refl _ _ _) p1
  have E1 := Lib.hid e1
  have HF1 := Lib.hid hf1
  have HT1 := Lib.hid ht1
  have key := maced_any h1 tr m w1 ht1 HM.out
  clear p1 e1 ht1 hf1
  go_wp2_with fail
  refine key.mono ?_
  clear key
  rintro e w3 ⟨rfl, hb3⟩
  have HT3 := Lib.hid (HT1.out.below hb3)
  have HF3 := Lib.hid (HF1.out.trans (.of_below hb3))
  clear hb3
  go_wp2_with fail
  go_ret
  unfold AskPost askT
  rw [E1.out]
  exact ⟨rfl, HT3.out, HF3.out⟩


set_option maxHeartbeats 800000 in
theorem binds_any {B tb : Nat} {T : List Nd} (k tr m : Int) (w : World) (ht : IsTab B w tb T) (hk : Fit k) (hc : Fit tr) (hm : Fit m) :
    Calls Try.prog 23 #[.pointer (some ⟨tb, 0, none⟩), .int .i64 k, .int .i64 tr, .int .i64 m] w (AskPost B tb w (askT T lbBinder k tr m)) := by
  have key := of_any lbBinder k 0 w ht hk (fit_of (by omega)) (by decide)
  have HM := Lib.hid hm
  clear ht hm
  go_enter Try.func23, Try.ntmps23
  go_wp2_with fail
  refine key.mono ?_
  clear key
  rintro e w1 p1
  obtain ⟨T1, h1, e1, rfl, ht1, hf1⟩ := TabPost.of (Frm.refl _ _ _) p1
  have E1 := Lib.hid e1
  have HF1 := Lib.hid hf1
  have HT1 := Lib.hid ht1
  have key := maced_any h1 tr m w1 ht1 HM.out
  clear p1 e1 ht1 hf1
  go_wp2_with fail
  refine key.mono ?_
  clear key
  rintro e w3 ⟨rfl, hb3⟩
  have HT3 := Lib.hid (HT1.out.below hb3)
  have HF3 := Lib.hid (HF1.out.trans (.of_below hb3))
  clear hb3
  go_wp2_with fail
  go_ret
  unfold AskPost askT
  rw [E1.out]
  exact ⟨rfl, HT3.out, HF3.out⟩


/-! ### Of terms that are there -/
theorem behind_spec {T : List Nd} {s tr : Int} {l : ByteArray} (hw : WfT T) (hl : l.size ≤ 2048) (hT : T.length < 60000) (hs : In T s) (hc : In T tr) :
    DerAt (behindT T l s tr).1 (behindT T l s tr).2 s l tr ∧ Ext 3 T (behindT T l s tr).1 := by
  have := hc.range
  unfold behindT
  rw [if_neg (by omega)]
  exact der_ctx hw hl hT hs hc
theorem deriveT_wf {T : List Nd} (hw : WfT T) (s : Int) (l : ByteArray) (c : Int) : WfT (deriveT T s l c).1 := by
  unfold deriveT
  refine wf_make (wf_text ?_ l) _ _
  unfold ctxT
  split
  · exact wf_text hw _
  · exact hw
theorem behindT_wf {T : List Nd} (hw : WfT T) (l : ByteArray) (s tr : Int) : WfT (behindT T l s tr).1 := by
  unfold behindT
  split
  · exact hw
  · exact deriveT_wf hw _ _ _
theorem behindT_ext (T : List Nd) (l : ByteArray) (s tr : Int) : Ext 3 T (behindT T l s tr).1 := by
  unfold behindT
  split
  · exact (Ext.refl _).mono (by omega)
  · exact deriveT_ext _ _ _ _
theorem pair_spec {T : List Nd} {s tr : Int} {l1 l2 : ByteArray} (hw : WfT T) (hl1 : l1.size ≤ 2048) (hl2 : l2.size ≤ 2048) (hT : T.length < 50000) (hs : In T s) (hc : In T tr) :
    DerAt (pairT T l1 l2 s tr).1 (pairT T l1 l2 s tr).2.1 s l1 tr ∧ DerAt (pairT T l1 l2 s tr).1 (pairT T l1 l2 s tr).2.2 s l2 tr ∧ Ext 6 T (pairT T l1 l2 s tr).1 := by
  obtain ⟨d1, x1⟩ := behind_spec (l := l1) hw hl1 (by omega) hs hc
  have := x1.len
  obtain ⟨d2, x2⟩ := behind_spec (T := (behindT T l1 s tr).1) (l := l2) (behindT_wf hw _ _ _) hl2 (by omega) (hs.ext x1) (hc.ext x1)
  exact ⟨d1.ext x2, d2, x1.trans x2⟩
theorem early_spec {T : List Nd} {h : Int} (hw : WfT T) (hT : T.length < 50000) (hh : h = 0 ∨ In T h) :
    ∃ own, (h ≠ 0 → own = h) ∧ (h = 0 → getT (earlyT T h).1 own = some (nT lbNone)) ∧ Der0 (earlyT T h).1 (earlyT T h).2 own lbEarly ∧ Ext 4 T (earlyT T h).1 := by
  unfold earlyT noneT
  by_cases hz : h = 0
  · rw [if_pos hz]
    have h1 := text_get (T := T) (b := lbNone) (by decide) (by omega)
    have e1 := textT_ext T lbNone
    have := e1.len
    obtain ⟨d, x⟩ := der_zero (l := lbEarly) (wf_text hw lbNone) (by decide) (by omega) (.of h1)
    exact ⟨_, fun k => absurd hz k, fun _ => x.get h1, d, (e1.trans x).mono (by omega)⟩
  · rw [if_neg hz]
    obtain ⟨d, x⟩ := der_zero (l := lbEarly) hw (by decide) (by omega) (hh.resolve_left hz)
    exact ⟨h, fun _ => rfl, fun k => absurd k hz, d, x.mono (by omega)⟩
theorem earlyT_wf {T : List Nd} (hw : WfT T) (h : Int) : WfT (earlyT T h).1 := by
  unfold earlyT noneT
  refine deriveT_wf ?_ _ _ _
  split
  · exact wf_text hw _
  · exact hw
theorem shaken_spec {T : List Nd} {e s : Int} (hw : WfT T) (hT : T.length < 50000) (he : In T e) (hs : In T s) :
    ∃ r, getT (shakenT T e s).1 r = some ⟨3, ByteArray.empty, [e, s]⟩ ∧ Der0 (shakenT T e s).1 (shakenT T e s).2 r lbHandshake ∧ Ext 4 T (shakenT T e s).1 := by
  have h1 := make_row hw (by omega) (p := [e, s]) (by simp; exact ⟨he, hs⟩) (by simp)
  have e1 := makeT_ext T 3 [e, s]
  have := e1.len
  obtain ⟨d, x⟩ := der_zero (l := lbHandshake) (wf_make hw 3 [e, s]) (by decide) (by omega) (.of h1)
  exact ⟨_, x.get h1, d, (e1.trans x).mono (by omega)⟩
theorem mac_spec {T : List Nd} {k tr : Int} {l : ByteArray} (hw : WfT T) (hl : l.size ≤ 2048) (hT : T.length < 50000) (hk : In T k) (hc : In T tr) :
    ∃ d, Der0 (macT T l k tr).1 d k l ∧ getT (macT T l k tr).1 (macT T l k tr).2 = some ⟨5, ByteArray.empty, [d, tr]⟩ ∧ Ext 4 T (macT T l k tr).1 := by
  obtain ⟨d, x⟩ := der_zero (l := l) hw hl (by omega) hk
  have := x.len
  have h2 := make_mac (deriveT_wf hw k l 0) (by omega) d.in_ (hc.ext x)
  have e2 := makeT_ext (deriveT T k l 0).1 5 [(deriveT T k l 0).2, tr]
  exact ⟨_, d.ext e2, h2, (x.trans e2).mono (by omega)⟩
theorem macT_wf {T : List Nd} (hw : WfT T) (l : ByteArray) (k tr : Int) : WfT (macT T l k tr).1 := wf_make (deriveT_wf hw _ _ _) _ _
theorem signed_spec {T : List Nd} {tr : Int} (hw : WfT T) (hT : T.length < 50000) (hc : In T tr) :
    ∃ x, getT (signedT T tr).1 x = some (nT lbServerProof) ∧ getT (signedT T tr).1 (signedT T tr).2 = some ⟨3, ByteArray.empty, [x, tr]⟩ ∧ Ext 2 T (signedT T tr).1 := by
  have h1 := text_get (T := T) (b := lbServerProof) (by decide) (by omega)
  have e1 := textT_ext T lbServerProof
  have := e1.len
  have h2 := make_row (wf_text hw lbServerProof) (by omega) (p := [(textT T lbServerProof).2, tr]) (by simp; exact ⟨.of h1, hc.ext e1⟩) (by simp)
  have e2 := makeT_ext (textT T lbServerProof).1 3 [(textT T lbServerProof).2, tr]
  exact ⟨_, e2.get h1, h2, (e1.trans e2).mono (by omega)⟩
theorem first_spec {T : List Nd} {g : ByteArray} (hw : WfT T) (hg : g.size ≤ 2048) (hT : T.length < 50000) :
    ∃ x, getT (firstT T g).1 x = some (nT g) ∧ Der0 (firstT T g).1 (firstT T g).2.1 x lbClientIn ∧ Der0 (firstT T g).1 (firstT T g).2.2 x lbServerIn ∧ Ext 7 T (firstT T g).1 := by
  have h1 := text_get (T := T) (b := g) hg (by omega)
  have e1 := textT_ext T g
  have := e1.len
  obtain ⟨d1, x1⟩ := der_zero (l := lbClientIn) (wf_text hw g) (by decide) (by omega) (.of h1)
  have := x1.len
  obtain ⟨d2, x2⟩ := der_zero (l := lbServerIn) (deriveT_wf (wf_text hw g) (textT T g).2 lbClientIn 0) (by decide) (by omega) (.of (x1.get h1))
  exact ⟨_, x2.get (x1.get h1), d1.ext x2, d2, ((e1.trans x1).trans x2).mono (by omega)⟩
/-- What is no mac there is none. -/
theorem maced_out {T : List Nd} {k tr m : Int} (h : ¬ In T m) : macedT T k tr m = false := by
  unfold macedT
  cases e : getT T m with
  | none => rfl
  | some n => exact absurd ⟨n, e⟩ h
theorem maced_at {T : List Nd} {k tr m d c : Int} (h : getT T m = some ⟨5, ByteArray.empty, [d, c]⟩) : macedT T k tr m = decide (d = k ∧ c = tr) := by
  unfold macedT
  rw [h]
  simp [nth]
end Go.Proofs.Ytbcicfgffjgpdaa

/- special.Tag on the table. No condition but the sizes. -/
set_option linter.unusedVariables false
set_option linter.unusedSimpArgs false
namespace Go.Proofs.Ytbcicfgffjgpdaa
open Go Go.RowKit Go.WideMaps

def retryL : List Int := [114, 101, 116, 114, 121]
theorem retry_str : strOfNums retryL = retryS := by decide
def tagV (T : List Nd) (g : ByteArray) (bs : List Int) : List Nd × Int := if bs = [] then (T, 0) else tagT T g (strOfNums bs)

set_option maxHeartbeats 1600000 in
set_option maxRecDepth 100000 in
theorem tag_any {B B1 B2 tb : Nat} {T : List Nd} (A0 : Option Addr) (n0 c0 : Nat) (gs : List Int) (ver token tag : Int) (A1 A2 : Option Addr) (n1 n2 c1 c2 : Nat) (ts fr : List Int) (w : World) (ht : IsTab B w tb T)
    (h0 : Rds B w .u8 A0 n0 c0 gs) (h1 : Rds B1 w .u8 A1 n1 c1 ts) (h2 : Rds B2 w .u8 A2 n2 c2 fr) :
    Calls Try.prog 34 #[.pointer (some ⟨tb, 0, none⟩), .slice A0 n0 c0, .agg #[.int .i64 ver, .slice A1 n1 c1, .slice A2 n2 c2, .int .i64 token, .int .i64 tag]] w (TabPost B tb w (tagV T (strOfNums gs) (bodyB ver ts fr token))) := by
  have HT := Lib.hid ht
  have H0 := Lib.hid h0
  obtain ⟨W, hW⟩ : ∃ W, W = w.alloc (.cells #[.int .i64 ver, .slice A1 n1 c1, .slice A2 n2 c2, .int .i64 token, .int .i64 tag] 58) := ⟨_, rfl⟩
  have HBW : Hid (Below w.heap.size w W) := by rw [hW]; exact below_new _
  have key := body_any ver token tag A1 A2 n1 n2 c1 c2 ts fr W (h1.below HBW.out) (h2.below HBW.out)
  clear ht h0 h1 h2
  go_enter Try.func34, Try.ntmps34
  go_wp2_with fail
  rw [← hW]
  clear hW
  refine key.mono ?_
  clear key
  rintro e w1 ⟨v, rfl, ho1, hb1⟩
  obtain ⟨bs, hbs⟩ : ∃ bs, bs = bodyB ver ts fr token := ⟨_, rfl⟩
  rw [← hbs] at ho1 ⊢
  obtain ⟨A, c, rfl⟩ := ho1.slice
  have HB1 := Lib.hid (below_next HBW.out HBW.out.size hb1)
  have HT1 := Lib.hid (HT.out.below HB1.out)
  have HR1 := Lib.hid (ho1.rds (B' := B))
  have HBS := Lib.hid hbs
  clear hbs hb1 ho1 HBW
  by_cases hn : bs = []
  · subst hn
    go_wp2_with fail
    go_ret
    have hz : tagV T (strOfNums gs) (bodyB ver ts fr token) = (T, 0) := by rw [← HBS.out]; rfl
    rw [hz]
    exact ⟨rfl, HT1.out, .of_below HB1.out⟩
  have hpos : 0 < bs.length := List.length_pos_iff.2 hn
  have hpos' : ((bs.length : Int) == 0) = false := by simp; omega
  have HV : Hid (tagV T (strOfNums gs) (bodyB ver ts fr token) = tagT T (strOfNums gs) (strOfNums bs)) := by show _ = _; rw [← HBS.out]; exact if_neg hn
  have hlen := HT.out.1.len
  clear hn
  have hconv := Lib.hid (run_const_bytes w1 #[.int .u8 114, .int .u8 101, .int .u8 116, .int .u8 114, .int .u8 121] 5 5)
  obtain ⟨V, hW⟩ : ∃ V, V = w1.alloc (.cells #[.int .u8 114, .int .u8 101, .int .u8 116, .int .u8 114, .int .u8 121] 5 (5, 6)) := ⟨_, rfl⟩
  have hr : Rds 0 V .u8 (some ⟨w1.heap.size, 0, none⟩) 5 5 retryL := by
    rw [hW]
    exact rds_marked (xs := retryL) (t := 5) (5, 6) rfl (by decide) _ rfl 5 rfl (by decide)
  have HBV : Hid (Below w1.heap.size w1 V) := by rw [hW]; exact below_new _
  have HFV := Lib.hid ((Frm.of_below (C := tabO) (B := B) HB1.out).trans (.of_below HBV.out))
  have key := text_any (some ⟨w1.heap.size, 0, none⟩) 5 5 retryL V (HT1.out.below HBV.out) hr
  rw [retry_str] at key
  have HRV := Lib.hid (HR1.out.below HBV.out)
  have H0V := Lib.hid ((H0.out.below HB1.out).below HBV.out)
  clear hr HT1 HR1 HBV HB1 H0
  go_wp2_with ((with_reducible show wpList _ _ _ (Oper.mk _ (Op.convert 27 27 _) _ _ _ _ :: _) _ _); refine wp_convert rfl _ _ _ rfl rfl hconv.out ?_)
  rw [← hW]
  clear hW hconv
  refine key.mono ?_
  clear key
  rintro e w2 p2
  have r2 := Lib.hid (textT_range (T := T) (b := retryS) hlen)
  obtain ⟨T2, k, e2, rfl, ht2, hf2⟩ := TabPost.of (Frm.refl _ _ _) p2
  rw [e2] at r2
  have E2 := Lib.hid e2
  have HF2 := Lib.hid (HFV.out.trans hf2)
  have HR2 := Lib.hid (HRV.out.frm hf2.tab_sp)
  have H02 := Lib.hid (H0V.out.frm hf2.tab_sp)
  have key := text_any A0 n0 c0 gs w2 ht2 H02.out
  have hlen2 := ht2.1.len
  clear p2 e2 ht2 hf2 HFV HRV H0V
  go_wp2_with fail
  refine key.mono ?_
  clear key
  rintro e w3 p3
  have r3 := Lib.hid (textT_range (T := T2) (b := strOfNums gs) hlen2)
  obtain ⟨T3, gg, e3, rfl, ht3, hf3⟩ := TabPost.of (Frm.refl _ _ _) p3
  rw [e3] at r3
  have E3 := Lib.hid e3
  have HF3 := Lib.hid (HF2.out.trans hf3)
  have HR3 := Lib.hid (HR2.out.frm hf3.tab_sp)
  have key := text_any A bs.length c bs w3 ht3 HR3.out
  have hlen3 := ht3.1.len
  clear p3 e3 ht3 hf3 HF2 HR2 H02
  go_wp2_with fail
  refine key.mono ?_
  clear key
  rintro e w4 p4
  have r4 := Lib.hid (textT_range (T := T3) (b := strOfNums bs) hlen3)
  obtain ⟨T4, xx, e4, rfl, ht4, hf4⟩ := TabPost.of (Frm.refl _ _ _) p4
  rw [e4] at r4
  have E4 := Lib.hid e4
  have HF4 := Lib.hid (HF3.out.trans hf4)
  have key := make_fit (g := w4.heap.size) (t := 25) 3 [gg, xx] w4 ht4 rfl (by have := r3.out; have := r4.out; simp; exact ⟨fit_of r3.out, fit_of r4.out⟩) (by simp) _ rfl (by decide) 2 rfl
  have hlen4 := ht4.1.len
  clear p4 e4 ht4 hf4 HF3 HR3
  go_wp2_with fail
  refine key.mono ?_
  clear key
  rintro e w5 p5
  obtain ⟨T5, row, e5, rfl, ht5, hf5⟩ := TabPost.of (Frm.refl _ _ _) p5
  have r5 := makeT_range (T := T4) (k := 3) (p := [gg, xx]) hlen4
  rw [e5] at r5
  have R5 := Lib.hid r5
  have E5 := Lib.hid e5
  have HF5 := Lib.hid (HF4.out.trans hf5)
  have key := make_fit (g := w5.heap.size) (t := 25) 5 [k, row] w5 ht5 rfl (by have := r2.out; have := R5.out; simp; exact ⟨fit_of r2.out, fit_of R5.out⟩) (by simp) _ rfl (by decide) 2 rfl
  clear p5 e5 ht5 hf5 HF4 r5
  go_wp2_with fail
  refine key.mono ?_
  clear key
  rintro e w6 p6
  have P6 := Lib.hid (tabPost_next HF5.out p6)
  obtain ⟨rfl, -, -⟩ := p6
  go_wp2_with fail
  go_ret
  rw [HV.out]
  have := P6.out
  unfold tagT
  rw [E2.out]
  simp only
  rw [E3.out]
  simp only
  rw [E4.out]
  simp only
  rw [E5.out]
  exact this
end Go.Proofs.Ytbcicfgffjgpdaa

/- The body of a retry tells its fields. Plain. -/
set_option linter.unusedVariables false
namespace Go.Proofs.Ytbcicfgffjgpdaa
open Go Go.RowKit

theorem bigB_inj {a b : Int} (ha : VerOk a) (hb : VerOk b) (h : bigB a = bigB b) : a = b := by
  unfold bigB at h
  simp only [List.cons.injEq, and_true] at h
  obtain ⟨h1, h2, h3, h4⟩ := h
  unfold VerOk at ha hb
  omega
theorem numB_inj {a b : Int} (ha : 1 ≤ a ∧ a ≤ 65536) (hb : 1 ≤ b ∧ b ≤ 65536) (h : numB a = numB b) : a = b := by
  rw [numB_yes ha.1 ha.2, numB_yes hb.1 hb.2] at h
  simp only [List.cons.injEq, and_true] at h
  omega
theorem headB_inj {f v v' : Int} {ts ts' fr fr' r r' : List Int} (h : headB f v ts fr ++ r = headB f v' ts' fr' ++ r') : bigB v = bigB v' ∧ ts = ts' ∧ fr = fr' ∧ r = r' := by
  unfold headB at h
  simp only [List.cons_append, List.cons.injEq, true_and, List.append_assoc] at h
  obtain ⟨h1, h2⟩ := List.append_inj h (by simp [bigB_len])
  simp only [List.cons.injEq] at h2
  obtain ⟨h3, h4⟩ := h2
  obtain ⟨h5, h6⟩ := List.append_inj h4 (by omega)
  simp only [List.cons.injEq] at h6
  obtain ⟨h7, h8⟩ := h6
  obtain ⟨h9, h10⟩ := List.append_inj h8 (by omega)
  exact ⟨h1, h5, h9, h10⟩
theorem bodyB_inj {v v' t t' : Int} {ts ts' fr fr' : List Int} (h : BodyOk v ts fr t) (h' : BodyOk v' ts' fr' t') (e : bodyB v ts fr t = bodyB v' ts' fr' t') : v = v' ∧ ts = ts' ∧ fr = fr' ∧ t = t' := by
  rw [bodyB, bodyB, if_pos h, if_pos h'] at e
  obtain ⟨h1, h2, h3, h4⟩ := headB_inj e
  exact ⟨bigB_inj h.2.1 h'.2.1 h1, h2, h3, numB_inj h.2.2 h'.2.2 h4⟩
end Go.Proofs.Ytbcicfgffjgpdaa

/- Look at a term that is there. No condition. -/
set_option linter.unusedVariables false
namespace Go.Proofs.Ytbcicfgffjgpdaa
open Go Go.RowKit

theorem look_node {B tb : Nat} {T : List Nd} (h : Int) (n : Nd) (w : World) (ht : IsTab B w tb T) (e : getT T h = some n) :
    Calls Try.prog 32 #[.pointer (some ⟨tb, 0, none⟩), .int .i64 h] w fun e w' => ∃ A c, e = .returned (.tuple #[.agg #[.int .i64 n.kind, .string n.text, .slice A n.parts.length c], .bool true]) ∧ OwnI w' w.heap.size .i64 (.slice A n.parts.length c) n.parts ∧ Below w.heap.size w w' := by
  have hr := getT_range e
  have := ht.1.len
  refine (look_any h w ht (by omega) (by omega)).mono ?_
  rintro e' w' ⟨A, c, rfl, ho, hb⟩
  have h1 : nodeT T h = n := by unfold nodeT; rw [e]; rfl
  have h2 : (getT T h).isSome = true := by rw [e]; rfl
  rw [h1] at ho
  rw [h1, h2]
  exact ⟨A, c, rfl, ho, hb⟩
theorem strOfNums_inj {xs ys : List Int} (hx : Byt xs) (hy : Byt ys) (h : strOfNums xs = strOfNums ys) : xs = ys := by
  have h1 : (xs.map fun n => UInt8.ofNat n.toNat) = ys.map fun n => UInt8.ofNat n.toNat := by
    have := congrArg (fun b : ByteArray => b.data.toList) h
    simpa [strOfNums] using this
  have hl : xs.length = ys.length := by simpa using congrArg List.length h1
  apply List.ext_getElem hl
  intro i h2 h3
  have h4 := congrArg (fun l => l[i]?) h1
  simp only [List.getElem?_map, List.getElem?_eq_getElem h2, List.getElem?_eq_getElem h3, Option.map_some, Option.some.injEq] at h4
  have a := hx _ (List.getElem_mem h2)
  have b := hy _ (List.getElem_mem h3)
  have h5 := congrArg UInt8.toNat h4
  simp at h5
  omega

end Go.Proofs.Ytbcicfgffjgpdaa

/- When two tags are the same. Plain. -/
set_option linter.unusedVariables false
set_option linter.unusedSimpArgs false
namespace Go.Proofs.Ytbcicfgffjgpdaa
open Go Go.RowKit

theorem bodyB_byt {ver token : Int} {ts fr : List Int} (h : BodyOk ver ts fr token) (b1 : Byt ts) (b2 : Byt fr) : Byt (bodyB ver ts fr token) := by
  rw [bodyB_yes h]
  intro x hx
  have h1 := h.1.1
  have h2 := h.1.2
  unfold headB at hx
  simp only [List.cons_append, List.mem_cons, List.mem_append, List.append_assoc] at hx
  rcases hx with rfl | hx | rfl | hx | rfl | hx | hx
  · omega
  · exact bigB_byt ver x hx
  · omega
  · exact b1 x hx
  · omega
  · exact b2 x hx
  · exact numB_byt _ x hx
theorem body_size {ver token : Int} {ts fr : List Int} (h : BodyOk ver ts fr token) : (strOfNums (bodyB ver ts fr token)).size ≤ 60 := by
  rw [strOfNums_size, bodyB_len h]
  have h1 := h.1.1
  have h2 := h.1.2
  omega
theorem tagV_no {T : List Nd} {g : ByteArray} {ver token : Int} {ts fr : List Int} (h : ¬ BodyOk ver ts fr token) : tagV T g (bodyB ver ts fr token) = (T, 0) := by
  rw [bodyB_no h]; exact if_pos rfl
theorem tagV_yes {T : List Nd} {g : ByteArray} {ver token : Int} {ts fr : List Int} (h : BodyOk ver ts fr token) : tagV T g (bodyB ver ts fr token) = tagT T g (strOfNums (bodyB ver ts fr token)) := by
  refine if_neg fun e => ?_
  have := bodyB_len h
  rw [e] at this
  simp at this
  omega
theorem tagV_at {T T' : List Nd} {x : Int} {gs : List Int} {ver token : Int} {ts fr : List Int} (hw : WfT T) (hT : T.length < 50000) (hg : gs.length ≤ 50) (h : BodyOk ver ts fr token) (e : tagV T (strOfNums gs) (bodyB ver ts fr token) = (T', x)) :
    TagAt T' x (strOfNums gs) (strOfNums (bodyB ver ts fr token)) ∧ Ext 5 T T' := by
  rw [tagV_yes h] at e
  have S := tag_spec (T := T) (g := strOfNums gs) (b := strOfNums (bodyB ver ts fr token)) hw hT (by rw [strOfNums_size]; omega) (by have := body_size h; omega)
  rw [e] at S
  exact S
theorem tag_pos {T : List Nd} {x : Int} {g b : ByteArray} (h : TagAt T x g b) : x ≠ 0 := by
  have := h.in_.range
  omega
theorem unlike_plain {T3 T5 : List Nd} {x y ver token ver' token' : Int} {gs os ts fr ts' fr' : List Int} (e3 : tagV [] (strOfNums gs) (bodyB ver ts fr token) = (T3, x)) (e5 : tagV T3 (strOfNums os) (bodyB ver' ts' fr' token') = (T5, y))
    (w3 : WfT T3) (w5 : WfT T5) (hg : gs.length ≤ 50) (ho : os.length ≤ 50) (b1 : Byt ts) (b2 : Byt fr) (b3 : Byt ts') (b4 : Byt fr') (b5 : Byt gs) (b6 : Byt os) :
    x = 0 ∨ (x ≠ 0 ∧ y = 0) ∨ (x ≠ 0 ∧ y ≠ 0 ∧ (x = y ↔ gs = os ∧ ver = ver' ∧ ts = ts' ∧ fr = fr' ∧ token = token')) := by
  by_cases hA : BodyOk ver ts fr token
  · obtain ⟨tA, x3⟩ := tagV_at wfT_nil (by simp) hg hA e3
    have l3 := x3.len
    simp only [List.length_nil] at l3
    right
    by_cases hB : BodyOk ver' ts' fr' token'
    · obtain ⟨tB, x5⟩ := tagV_at w3 (by omega) ho hB e5
      right
      refine ⟨tag_pos tA, tag_pos tB, fun h => ?_, fun h => ?_⟩
      · subst h
        obtain ⟨h1, h2⟩ := (tA.ext x5).inj tB
        exact ⟨strOfNums_inj b5 b6 h1, bodyB_inj hA hB (strOfNums_inj (bodyB_byt hA b1 b2) (bodyB_byt hB b3 b4) h2)⟩
      · obtain ⟨rfl, rfl, rfl, rfl, rfl⟩ := h
        exact (tA.ext x5).uniq w5 tB
    · rw [tagV_no hB] at e5
      left
      exact ⟨tag_pos tA, by cases e5; rfl⟩
  · rw [tagV_no hA] at e3
    left
    cases e3
    rfl
end Go.Proofs.Ytbcicfgffjgpdaa

/- The printed words for rows of whole numbers, turned to ours and back. No condition. -/
set_option linter.unusedVariables false
set_option linter.unusedSimpArgs false
namespace Go.Proofs.Ytbcicfgffjgpdaa
open Go Go.RowKit Go.Proofs.YtbcicfgffjgpdaaW.PrintWords

theorem kd_c {B : Nat} {w : World} {k : IntKind} {A : Option Addr} {n c : Nat} {xs : List Int} (h : Rds B w k A n c xs) : Kd.C (Kd.int k) w A xs.length xs := by
  refine ⟨rfl, by have := h.len; have := h.cap; have := h.max; omega, fun h0 => ?_⟩
  obtain ⟨b, o, rfl, hc⟩ := h.cell.at_ h0
  refine ⟨_, rfl, fun j p hj => ⟨[.int k p], rfl, rfl, fun i u hu => ?_⟩⟩
  have hl := (List.getElem?_eq_some_iff.1 hj).1
  have hi : i = 0 := by
    have := (List.getElem?_eq_some_iff.1 hu).1
    simpa using this
  subst hi
  have e := nth_lt hl
  rw [hj] at e
  obtain rfl : p = nth xs j := Option.some.inj e
  obtain rfl : Value.int k (nth xs j) = u := by simpa using hu
  have hs : j * (Kd.int k).sz + 0 = j := by show j * 1 + 0 = j; omega
  rw [hs, addr_add]
  exact hc j hl
/-- A row that a printed contract hands back is a row of the call's own. -/
theorem kd_own {base e : Nat} {w : World} {k : IntKind} {ok : Nat → Prop} {v : Value} {xs : List Int} (he : spT e = false) (h : Kd.R (Kd.int k) e w base ok v xs) : OwnI w base k v xs := by
  obtain ⟨_, inner, ho, hr⟩ := h
  have hin : ∀ j p, xs[j]? = some p → inner[j]? = some (Value.int k p) := fun j p hj => by
    have h1 : (inner.drop (j * 1)).take 1 = [Value.int k p] := hr.2 j p hj
    rw [Nat.mul_one] at h1
    have h2 := congrArg (fun l => l[0]?) h1
    simpa using h2
  obtain ⟨hlen, hv⟩ := ho
  have hs : (Kd.int k).sz = 1 := rfl
  have hil : inner.length = xs.length := by rw [hlen, hs]; omega
  rcases hv with ⟨rfl, hx⟩ | ⟨g, cap, cur, rfl, hb, hh, h1, h2, h3, hcur⟩
  · exact .inl ⟨List.eq_nil_of_length_eq_zero hx, rfl⟩
  · refine .inr ⟨g, cap, cur, e, rfl, hb, hh, he, h1, by rw [h3, hs]; omega, by simpa only [maxLen] using h2, ?_⟩
    rw [hs, Nat.mul_one] at hcur
    rw [hcur]
    apply List.ext_getElem?
    intro j
    by_cases hj : j < xs.length
    · rw [hin j _ (List.getElem?_eq_getElem hj), List.getElem?_map, List.getElem?_eq_getElem hj]
      rfl
    · rw [List.getElem?_eq_none (by omega), List.getElem?_eq_none (by simp; omega)]
end Go.Proofs.Ytbcicfgffjgpdaa

/- The helpers of the laws of layer 8: same, list, retry. No condition. -/
set_option linter.unusedVariables false
set_option linter.unusedSimpArgs false
namespace Go.Proofs.Ytbcicfgffjgpdaa
open Go Go.RowKit
open Go.Proofs.Ytbcicfgffjgpdaa.PSpecialUnlike

def SamePost08 (xs ys : List Int) (w : World) (e : Ending) (w' : World) : Prop := e = .returned (.bool (decide (xs = ys))) ∧ Below w.heap.size w w'
set_option maxHeartbeats 400000 in
theorem same_len08 (A B : Option Addr) (n m c d : Nat) (w : World) (hne : n ≠ m) :
    Calls Try.prog 37 #[.slice A n c, .slice B m d] w fun e w' => e = .returned (.bool false) ∧ w = w' := by
  go_enter Try.func37, Try.ntmps37
  go_wp2
  go_ret
  exact ⟨rfl, rfl⟩
set_option maxHeartbeats 800000 in
theorem same_any08 {B0 B1 : Nat} (A B : Option Addr) (n m c d : Nat) (xs ys : List Int) (w : World) (h1 : Rds B0 w .u8 A n c xs) (h2 : Rds B1 w .u8 B m d ys) :
    Calls Try.prog 37 #[.slice A n c, .slice B m d] w (SamePost08 xs ys w) := by
  by_cases hnm : n = m
  rotate_left
  · refine (same_len08 A B n m c d w hnm).mono ?_
    rintro e w' ⟨rfl, rfl⟩
    refine ⟨?_, Below.refl _ _⟩
    rw [decide_eq_false]
    intro h; subst h; exact hnm (h1.len.symm.trans h2.len)
  subst hnm
  have Hn := Lib.hid h1.len
  have Hm := Lib.hid h2.len
  have Hx := Lib.hid h1.cell
  have Hy := Lib.hid h2.cell
  have hm : n ≤ 9223372036854775807 := Nat.le_trans h1.cap h1.max
  clear h1 h2
  go_enter Try.func37, Try.ntmps37
  go_wp2
  go_loopw [5] (fun i wr => ∃ k : Nat, k ≤ n ∧ i = .int .i64 k ∧ Hid (∀ j, j < k → nth xs j = nth ys j) ∧ ∃ q, wr = w.drewN q) (fun i _ => n - (intOf i).toNat)
  case atStart => exact ⟨0, Nat.zero_le _, rfl, fun j hj => by omega, 0, rfl⟩
  case round =>
    obtain ⟨k, hk, rfl, hq, q, rfl⟩ := hrel
    by_cases hlt : k < n
    · obtain ⟨b, o, rfl, hcx⟩ := RdI.at_ Hx.out (by have := Hn.out; omega)
      obtain ⟨b', o', rfl, hcy⟩ := RdI.at_ Hy.out (by have := Hm.out; omega)
      have g1 := hcx k (by have := Hn.out; omega)
      have g2 := hcy k (by have := Hm.out; omega)
      clear hcx hcy
      by_cases hz : nth xs k = nth ys k
      · have hz' : (nth xs k != nth ys k) = false := by simp [hz]
        have HZ := Lib.hid hz; clear hz
        go_wp2
        go_quiet (fail)
        go_wp2
        go_roundw
        case rel => exact ⟨k + 1, by omega, by go_num, fun j hj => by
          rcases Nat.lt_or_ge j k with h | h
          · exact hq.out j h
          · obtain rfl : j = k := by omega
            exact HZ.out, _, rfl⟩
        case measure => simp [intOf]; omega
      · have hz' : (nth xs k != nth ys k) = true := by simp [hz]
        have HZ := Lib.hid hz; clear hz
        go_wp2
        go_quiet (fail)
        go_wp2
        go_ret
        refine ⟨?_, below_drewN (below_drewN (Below.refl _ _) _) _⟩
        rw [decide_eq_false (show ¬ xs = ys by intro h; subst h; exact HZ.out rfl)]
        rfl
    · go_wp2
      go_ret
      refine ⟨?_, below_drewN (Below.refl _ _) _⟩
      have he : xs = ys := ext_nth (Hn.out.trans Hm.out.symm) fun j hj => hq.out j (by have := Hn.out; omega)
      rw [decide_eq_true he]
      rfl

theorem same_self08 {B0 B1 : Nat} (A B : Option Addr) (n m c d : Nat) (xs : List Int) (w : World) (h1 : Rds B0 w .u8 A n c xs) (h2 : Rds B1 w .u8 B m d xs) :
    Calls Try.prog 37 #[.slice A n c, .slice B m d] w fun e w' => e = .returned (.bool true) ∧ Below w.heap.size w w' :=
  (same_any08 A B n m c d xs xs w h1 h2).mono fun e w' h => ⟨by rw [h.1, decide_eq_true rfl], h.2⟩
def ListPost (ts fr vs : List Int) (w : World) (e : Ending) (w' : World) : Prop := ∃ A1 c1 A2 c2 A3 c3, e = .returned (.agg #[.slice A1 ts.length c1, .slice A2 fr.length c2, .slice A3 vs.length c3]) ∧
  OwnI w' w.heap.size .u8 (.slice A1 ts.length c1) ts ∧ OwnI w' w.heap.size .u8 (.slice A2 fr.length c2) fr ∧ OwnI w' w.heap.size .i64 (.slice A3 vs.length c3) vs ∧ Below w.heap.size w w'
def RetryPost (ver : Int) (ts fr : List Int) (token tag : Int) (w : World) (e : Ending) (w' : World) : Prop := ∃ A1 c1 A2 c2, e = .returned (.agg #[.int .i64 ver, .slice A1 ts.length c1, .slice A2 fr.length c2, .int .i64 token, .int .i64 tag]) ∧
  OwnI w' w.heap.size .u8 (.slice A1 ts.length c1) ts ∧ OwnI w' w.heap.size .u8 (.slice A2 fr.length c2) fr ∧ Below w.heap.size w w'
theorem retry_any {B1 B2 : Nat} (ver token tag : Int) (A1 A2 : Option Addr) (n1 n2 c1 c2 : Nat) (ts fr : List Int) (w : World) (h1 : Rds B1 w .u8 A1 n1 c1 ts) (h2 : Rds B2 w .u8 A2 n2 c2 fr) (l1 : n1 ≤ 1000000) (l2 : n2 ≤ 1000000) :
    Calls Try.prog 35 #[.agg #[.int .i64 ver, .slice A1 n1 c1, .slice A2 n2 c2, .int .i64 token, .int .i64 tag]] w (RetryPost ver ts fr token tag w) := by
  obtain rfl := h1.len
  obtain rfl := h2.len
  refine (shibbolethlaw08_retry.calls ver A1 c1 ts A2 c2 fr token tag ver ts fr token tag w (kd_c h1) h1.cap (kd_c h2) h2.cap ?_).mono ?_
  · simp only [shibbolethlaw08_retry.f, Option.bind_some, List.length_nil, List.nil_append]
    rw [if_pos (by omega), if_pos (by omega)]
  · rintro e w' ⟨v1, v2, rfl, r1, r2, hb⟩
    have o1 := kd_own sp_u8 r1
    have o2 := kd_own sp_u8 r2
    obtain ⟨A1', c1', rfl⟩ := o1.slice
    obtain ⟨A2', c2', rfl⟩ := o2.slice
    exact ⟨_, _, _, _, rfl, o1, o2, hb⟩

theorem awake08_bytes : listB [] [] [2] = [128, 0, 0, 0, 0, 0, 0, 0, 0, 0, 2] := by decide
set_option maxHeartbeats 800000 in
set_option maxRecDepth 100000 in
theorem awake08_any (w : World) : Calls Try.prog 36 #[] w fun e w' => e = .returned (.bool true) ∧ Below w.heap.size w w' := by
  obtain ⟨W, hW⟩ : ∃ W, W = w.alloc (.cells #[.int .i64 2] 3) := ⟨_, rfl⟩
  have HBW : Hid (Below w.heap.size w W) := by rw [hW]; exact below_new _
  have hr : Rds 0 W .i64 (some ⟨w.heap.size, 0, none⟩) 1 1 [2] := by
    rw [hW]
    exact (OwnI.fresh (w := w) (B := 0) (k := .i64) (xs := [2]) (t := 3) (Nat.zero_le _) sp_int (by simp)).rds
  have key := writeList_any none none (some ⟨w.heap.size, 0, none⟩) 0 0 1 0 0 1 [] [] [2] W (Rds.nil 0 _ _) (Rds.nil 0 _ _) hr
  rw [awake08_bytes] at key
  clear hr
  go_enter Try.func36, Try.ntmps36
  go_wp2_with fail
  rw [← hW]
  clear hW
  refine key.mono ?_
  clear key
  rintro e w1 ⟨v1, rfl, hv1, hb1⟩
  obtain ⟨A1, c1, rfl⟩ := hv1.slice
  have HB1 := Lib.hid (below_next HBW.out HBW.out.size hb1)
  obtain ⟨W2, hW2⟩ : ∃ W2, W2 = w1.alloc (.cells #[.int .u8 128, .int .u8 0, .int .u8 0, .int .u8 0, .int .u8 0, .int .u8 0, .int .u8 0, .int .u8 0, .int .u8 0, .int .u8 0, .int .u8 2] 5) := ⟨_, rfl⟩
  have R2 : Rds 0 W2 .u8 (some ⟨w1.heap.size, 0, none⟩) 11 11 [128, 0, 0, 0, 0, 0, 0, 0, 0, 0, 2] := by
    rw [hW2]
    exact (OwnI.fresh (w := w1) (B := 0) (k := .u8) (xs := [128, 0, 0, 0, 0, 0, 0, 0, 0, 0, 2]) (t := 5) (Nat.zero_le _) sp_u8 (by simp)).rds
  have R1 : Rds 0 W2 .u8 A1 11 c1 [128, 0, 0, 0, 0, 0, 0, 0, 0, 0, 2] := by
    rw [hW2]
    exact ((hv1.below (below_new _)).rds)
  have HB2 : Hid (Below w.heap.size w W2) := by rw [hW2]; exact HB1.out.alloc HB1.out.size _
  have key := same_self08 A1 (some ⟨w1.heap.size, 0, none⟩) 11 11 c1 11 _ W2 R1 R2
  simp only [List.length_cons, List.length_nil]
  clear hv1 hb1 R1 R2
  go_wp2_with fail
  rw [← hW2]
  clear hW2
  refine key.mono ?_
  clear key
  rintro e w3 ⟨rfl, hb3⟩
  have HB3 := Lib.hid (below_next HB2.out HB2.out.size hb3)
  clear hb3
  go_wp2_with fail
  go_ret
  exact ⟨rfl, HB3.out⟩
end Go.Proofs.Ytbcicfgffjgpdaa

/- retried of the laws of layer 8. No condition. -/
set_option linter.unusedVariables false
set_option linter.unusedSimpArgs false
namespace Go.Proofs.Ytbcicfgffjgpdaa
open Go Go.RowKit

set_option maxHeartbeats 1600000 in
set_option maxRecDepth 100000 in
theorem retried_any {B1 B2 B3 B4 : Nat} (ver token tag ver' token' tag' : Int) (A1 A2 A3 A4 : Option Addr) (n1 n2 n3 n4 c1 c2 c3 c4 : Nat) (ts fr ts' fr' : List Int) (w : World)
    (h1 : Rds B1 w .u8 A1 n1 c1 ts) (h2 : Rds B2 w .u8 A2 n2 c2 fr) (h3 : Rds B3 w .u8 A3 n3 c3 ts') (h4 : Rds B4 w .u8 A4 n4 c4 fr') :
    Calls Try.prog 38 #[.agg #[.int .i64 ver, .slice A1 n1 c1, .slice A2 n2 c2, .int .i64 token, .int .i64 tag], .agg #[.int .i64 ver', .slice A3 n3 c3, .slice A4 n4 c4, .int .i64 token', .int .i64 tag']] w
      fun e w' => e = .returned (.bool (decide (ver = ver' ∧ ts = ts' ∧ fr = fr' ∧ token = token' ∧ tag = tag'))) ∧ Below w.heap.size w w' := by
  obtain ⟨D, hD⟩ : ∃ D, D = decide (ver = ver' ∧ ts = ts' ∧ fr = fr' ∧ token = token' ∧ tag = tag') := ⟨_, rfl⟩
  rw [← hD]
  have HD0 := Lib.hid hD
  clear hD
  obtain ⟨W, hW⟩ : ∃ W, W = (w.alloc (.cells #[.int .i64 ver, .slice A1 n1 c1, .slice A2 n2 c2, .int .i64 token, .int .i64 tag] 58)).alloc (.cells #[.int .i64 ver', .slice A3 n3 c3, .slice A4 n4 c4, .int .i64 token', .int .i64 tag'] 53) := ⟨_, rfl⟩
  have HBW : Hid (Below w.heap.size w W) := by rw [hW]; exact below_pair _ _
  have HSW : Hid (W.heap.size = w.heap.size + 2) := by rw [hW]; show _ = _; simp
  have H1 := Lib.hid (h1.below HBW.out)
  have H2 := Lib.hid (h2.below HBW.out)
  have H3 := Lib.hid (h3.below HBW.out)
  have H4 := Lib.hid (h4.below HBW.out)
  clear h1 h2 h3 h4
  go_enter Try.func38, Try.ntmps38
  by_cases hv : ver = ver'
  rotate_left
  · have HE : Hid (D = false) := by show _ = _; rw [HD0.out]; simp [hv]
    have hvb : (ver == ver') = false := by simp [hv]
    clear hv
    go_wp2_with fail
    go_ret
    rw [HE.out, ← hW]
    exact ⟨rfl, HBW.out⟩
  have hvb : (ver == ver') = true := by simp [hv]
  have HV := Lib.hid hv
  have x2 : W.cell? ⟨w.heap.size, 2, none⟩ = some (.slice A2 n2 c2) := by rw [hW]; simp [go_sem]
  have x3 : W.cell? ⟨w.heap.size, 3, none⟩ = some (.int .i64 token) := by rw [hW]; simp [go_sem]
  have x4 : W.cell? ⟨w.heap.size, 4, none⟩ = some (.int .i64 tag) := by rw [hW]; simp [go_sem]
  have y2 : W.cell? ⟨w.heap.size + 1, 2, none⟩ = some (.slice A4 n4 c4) := by rw [hW]; simp [go_sem]
  have y3 : W.cell? ⟨w.heap.size + 1, 3, none⟩ = some (.int .i64 token') := by rw [hW]; simp [go_sem]
  have y4 : W.cell? ⟨w.heap.size + 1, 4, none⟩ = some (.int .i64 tag') := by rw [hW]; simp [go_sem]
  have key := same_any08 A1 A3 n1 n3 c1 c3 ts ts' W H1.out H3.out
  clear hv
  go_wp2_with fail
  rw [← hW]
  clear hW
  refine key.mono ?_
  clear key
  rintro e w1 ⟨rfl, hb1⟩
  replace x2 := later_cell hb1 x2 (by simp; have := HSW.out; omega)
  replace x3 := later_cell hb1 x3 (by simp; have := HSW.out; omega)
  replace x4 := later_cell hb1 x4 (by simp; have := HSW.out; omega)
  replace y2 := later_cell hb1 y2 (by simp; have := HSW.out; omega)
  replace y3 := later_cell hb1 y3 (by simp; have := HSW.out; omega)
  replace y4 := later_cell hb1 y4 (by simp; have := HSW.out; omega)
  have HB1 := Lib.hid (HBW.out.trans (hb1.mono (by have := HSW.out; omega)))
  have HS1 : Hid (w.heap.size + 2 ≤ w1.heap.size) := by show _ ≤ _; have := HSW.out; have := hb1.size; omega
  by_cases hts : ts = ts'
  rotate_left
  · have HE : Hid (D = false) := by show _ = _; rw [HD0.out]; simp [hts]
    rw [decide_eq_false hts]
    clear hts hb1 x2 x3 x4 y2 y3 y4
    go_wp2_with fail
    go_ret
    rw [HE.out]
    exact ⟨rfl, HB1.out⟩
  rw [decide_eq_true hts]
  have HTS := Lib.hid hts
  have key := same_any08 A2 A4 n2 n4 c2 c4 fr fr' w1 (H2.out.below hb1) (H4.out.below hb1)
  clear hts hb1
  go_wp2_with fail
  refine key.mono ?_
  clear key
  rintro e w2 ⟨rfl, hb2⟩
  replace x3 := later_cell hb2 x3 (by simp; have := HS1.out; omega)
  replace x4 := later_cell hb2 x4 (by simp; have := HS1.out; omega)
  replace y3 := later_cell hb2 y3 (by simp; have := HS1.out; omega)
  replace y4 := later_cell hb2 y4 (by simp; have := HS1.out; omega)
  have HB2 := Lib.hid (below_next HB1.out HB1.out.size hb2)
  clear hb2 x2 y2
  by_cases hfr : fr = fr'
  rotate_left
  · have HE : Hid (D = false) := by show _ = _; rw [HD0.out]; simp [hfr]
    rw [decide_eq_false hfr]
    clear hfr
    go_wp2_with fail
    go_ret
    rw [HE.out]
    exact ⟨rfl, HB2.out⟩
  rw [decide_eq_true hfr]
  have HFR := Lib.hid hfr
  clear hfr
  by_cases hto : token = token'
  rotate_left
  · have HE : Hid (D = false) := by show _ = _; rw [HD0.out]; simp [hto]
    have hb : (token == token') = false := by simp [hto]
    clear hto
    go_wp2_with fail
    go_ret
    rw [HE.out]
    exact ⟨rfl, HB2.out⟩
  have hb : (token == token') = true := by simp [hto]
  have HTO := Lib.hid hto
  clear hto
  by_cases hta : tag = tag'
  rotate_left
  · have HE : Hid (D = false) := by show _ = _; rw [HD0.out]; simp [hta]
    have hb' : (tag == tag') = false := by simp [hta]
    clear hta
    go_wp2_with fail
    go_ret
    rw [HE.out]
    exact ⟨rfl, HB2.out⟩
  · have HE : Hid (D = true) := by show _ = _; rw [HD0.out]; simp [hta, HV.out, HTS.out, HFR.out, HTO.out]
    have hb' : (tag == tag') = true := by simp [hta]
    clear hta
    go_wp2_with fail
    go_ret
    rw [HE.out]
    exact ⟨rfl, HB2.out⟩
theorem retried_yes {B1 B2 B3 B4 : Nat} (ver token tag ver' token' tag' : Int) (A1 A2 A3 A4 : Option Addr) (n1 n2 n3 n4 c1 c2 c3 c4 : Nat) (ts fr ts' fr' : List Int) (w : World)
    (h1 : Rds B1 w .u8 A1 n1 c1 ts) (h2 : Rds B2 w .u8 A2 n2 c2 fr) (h3 : Rds B3 w .u8 A3 n3 c3 ts') (h4 : Rds B4 w .u8 A4 n4 c4 fr') (h : ver = ver' ∧ ts = ts' ∧ fr = fr' ∧ token = token' ∧ tag = tag') :
    Calls Try.prog 38 #[.agg #[.int .i64 ver, .slice A1 n1 c1, .slice A2 n2 c2, .int .i64 token, .int .i64 tag], .agg #[.int .i64 ver', .slice A3 n3 c3, .slice A4 n4 c4, .int .i64 token', .int .i64 tag']] w fun e w' => e = .returned (.bool true) ∧ Below w.heap.size w w' := by
  have hd : decide (ver = ver' ∧ ts = ts' ∧ fr = fr' ∧ token = token' ∧ tag = tag') = true := decide_eq_true h
  have key := retried_any ver token tag ver' token' tag' A1 A2 A3 A4 n1 n2 n3 n4 c1 c2 c3 c4 ts fr ts' fr' w h1 h2 h3 h4
  rw [hd] at key
  exact key
theorem retried_no {B1 B2 B3 B4 : Nat} (ver token tag ver' token' tag' : Int) (A1 A2 A3 A4 : Option Addr) (n1 n2 n3 n4 c1 c2 c3 c4 : Nat) (ts fr ts' fr' : List Int) (w : World)
    (h1 : Rds B1 w .u8 A1 n1 c1 ts) (h2 : Rds B2 w .u8 A2 n2 c2 fr) (h3 : Rds B3 w .u8 A3 n3 c3 ts') (h4 : Rds B4 w .u8 A4 n4 c4 fr') (h : ¬ (ver = ver' ∧ ts = ts' ∧ fr = fr' ∧ token = token' ∧ tag = tag')) :
    Calls Try.prog 38 #[.agg #[.int .i64 ver, .slice A1 n1 c1, .slice A2 n2 c2, .int .i64 token, .int .i64 tag], .agg #[.int .i64 ver', .slice A3 n3 c3, .slice A4 n4 c4, .int .i64 token', .int .i64 tag']] w fun e w' => e = .returned (.bool false) ∧ Below w.heap.size w w' := by
  have hd : decide (ver = ver' ∧ ts = ts' ∧ fr = fr' ∧ token = token' ∧ tag = tag') = false := decide_eq_false h
  have key := retried_any ver token tag ver' token' tag' A1 A2 A3 A4 n1 n2 n3 n4 c1 c2 c3 c4 ts fr ts' fr' w h1 h2 h3 h4
  rw [hd] at key
  exact key
end Go.Proofs.Ytbcicfgffjgpdaa

/- The walk of SpecialUnlike. No condition. -/
set_option linter.unusedVariables false
set_option linter.unusedSimpArgs false
namespace Go.Proofs.Ytbcicfgffjgpdaa
open Go Go.RowKit Go.WideMaps

/-- A local retry. -/
def RetAt (w : World) (g : Nat) (ver : Int) (A1 : Option Addr) (n1 c1 : Nat) (A2 : Option Addr) (n2 c2 : Nat) (token tag : Int) : Prop :=
  w.heap[g]? = some (.cells #[.int .i64 ver, .slice A1 n1 c1, .slice A2 n2 c2, .int .i64 token, .int .i64 tag] 53 (0, 0))
section
variable {w w' : World} {g : Nat} {ver : Int} {A1 : Option Addr} {n1 c1 : Nat} {A2 : Option Addr} {n2 c2 : Nat} {token tag : Int}
theorem RetAt.below {B : Nat} (h : RetAt w g ver A1 n1 c1 A2 n2 c2 token tag) (hb : Below B w w') (hB : g < B) : RetAt w' g ver A1 n1 c1 A2 n2 c2 token tag := (hb.block _ hB).trans h
theorem RetAt.lt (h : RetAt w g ver A1 n1 c1 A2 n2 c2 token tag) : g < w.heap.size := lt_of_get h
theorem RetAt.later (h : RetAt w g ver A1 n1 c1 A2 n2 c2 token tag) (hb : Below w.heap.size w w') : RetAt w' g ver A1 n1 c1 A2 n2 c2 token tag := h.below hb h.lt
theorem RetAt.frm {B : Nat} (h : RetAt w g ver A1 n1 c1 A2 n2 c2 token tag) (hf : Frm tabO B w w') : RetAt w' g ver A1 n1 c1 A2 n2 c2 token tag := hf.block _ _ h (.inr rfl)
theorem RetAt.x0 (h : RetAt w g ver A1 n1 c1 A2 n2 c2 token tag) : w.cell? ⟨g, 0, none⟩ = some (.int .i64 ver) := by rw [cell_of_row w g 0 _ _ _ h]; rfl
theorem RetAt.x1 (h : RetAt w g ver A1 n1 c1 A2 n2 c2 token tag) : w.cell? ⟨g, 1, none⟩ = some (.slice A1 n1 c1) := by rw [cell_of_row w g 1 _ _ _ h]; rfl
theorem RetAt.x2 (h : RetAt w g ver A1 n1 c1 A2 n2 c2 token tag) : w.cell? ⟨g, 2, none⟩ = some (.slice A2 n2 c2) := by rw [cell_of_row w g 2 _ _ _ h]; rfl
theorem RetAt.x3 (h : RetAt w g ver A1 n1 c1 A2 n2 c2 token tag) : w.cell? ⟨g, 3, none⟩ = some (.int .i64 token) := by rw [cell_of_row w g 3 _ _ _ h]; rfl
theorem RetAt.x4 (h : RetAt w g ver A1 n1 c1 A2 n2 c2 token tag) : w.cell? ⟨g, 4, none⟩ = some (.int .i64 tag) := by rw [cell_of_row w g 4 _ _ _ h]; rfl
theorem RetAt.fz (h : RetAt w g ver A1 n1 c1 A2 n2 c2 token tag) (j : Nat) : w.frozen? ⟨g, j, none⟩ = false := frozen_of_row w g j _ _ h
theorem RetAt.five (h : RetAt w g ver A1 n1 c1 A2 n2 c2 token tag) : w.cell? ⟨g, 0, none⟩ = some (.int .i64 ver) ∧ w.cell? ⟨g, 1, none⟩ = some (.slice A1 n1 c1) ∧ w.cell? ⟨g, 2, none⟩ = some (.slice A2 n2 c2) ∧ w.cell? ⟨g, 3, none⟩ = some (.int .i64 token) ∧ w.cell? ⟨g, 4, none⟩ = some (.int .i64 tag) := ⟨h.x0, h.x1, h.x2, h.x3, h.x4⟩
end
/-- A whole value is stored over a block: the walk's step. -/
theorem wp_store_row {P : Program} {w : World} {ops : Array Oper} {rest : List Oper} {o : Oper} {a : Act} {Q : Exit → Act → World → Prop} (hgd : o.guard = none) (hdst : o.dst = none) (ty : Nat) (x y : Operand) (ho : o.op = .store ty x y) (g : Nat) (cur cs : Array Value) (t : Nat) (hx : a.eval x = .pointer (some ⟨g, 0, none⟩)) (hy : a.eval y = .agg cs)
    (hs : (P.info? ty).map (·.size) = some cs.size) (hg : w.heap[g]? = some (.cells cur t (0, 0))) (hc : cur.size = cs.size) (h1 : ∀ v ∈ cs.toList, v.oneCell' = true)
    (h : wpList P ops Q rest a (w.setRow g cs)) : wpList P ops Q (o :: rest) a w := by
  have hrun := run_storeAt_row (P := P) ty g cur cs t hs hg hc h1
  refine wp_op_skip hgd ?_ (by rw [hdst]; exact h)
  unfold execOp
  simp only [ho, hx, hy, Sem.run_bind, hrun, Result.andThen_ok, Sem.run_pure]

set_option maxHeartbeats 6400000 in
set_option maxRecDepth 100000 in
theorem specialUnlike_walk (w : World) (A1 A2 A3 A4 A5 A6 : Option Addr) (c1 c2 c3 c4 c5 c6 : Nat) (ts fr ts' fr' gs os : List Int) (ver token tag ver' token' tag' : Int)
    (h1 : Rds w.heap.size w .u8 A1 ts.length c1 ts) (h2 : Rds w.heap.size w .u8 A2 fr.length c2 fr) (h3 : Rds w.heap.size w .u8 A3 ts'.length c3 ts') (h4 : Rds w.heap.size w .u8 A4 fr'.length c4 fr') (h5 : Rds w.heap.size w .u8 A5 gs.length c5 gs) (h6 : Rds w.heap.size w .u8 A6 os.length c6 os)
    (b1 : Byt ts) (b2 : Byt fr) (b3 : Byt ts') (b4 : Byt fr') (b5 : Byt gs) (b6 : Byt os) :
    Calls Try.prog 8 #[.agg #[.int .i64 ver, .slice A1 ts.length c1, .slice A2 fr.length c2, .int .i64 token, .int .i64 tag, .int .i64 ver', .slice A3 ts'.length c3, .slice A4 fr'.length c4, .int .i64 token', .int .i64 tag', .slice A5 gs.length c5, .slice A6 os.length c6]] w fun e w' => e = .returned (.bool true) ∧ Below w.heap.size w w' := by
  have H1 := Lib.hid h1
  have H2 := Lib.hid h2
  have H3 := Lib.hid h3
  have H4 := Lib.hid h4
  have H5 := Lib.hid h5
  have H6 := Lib.hid h6
  have Y1 := Lib.hid b1
  have Y2 := Lib.hid b2
  have Y3 := Lib.hid b3
  have Y4 := Lib.hid b4
  have Y5 := Lib.hid b5
  have Y6 := Lib.hid b6
  clear h1 h2 h3 h4 h5 h6 b1 b2 b3 b4 b5 b6
  go_enter Try.func8, Try.ntmps8
  obtain ⟨W, hW⟩ : ∃ W, W = w.alloc (.cells #[.int .i64 ver, .slice A1 ts.length c1, .slice A2 fr.length c2, .int .i64 token, .int .i64 tag, .int .i64 ver', .slice A3 ts'.length c3, .slice A4 fr'.length c4, .int .i64 token', .int .i64 tag', .slice A5 gs.length c5, .slice A6 os.length c6] 55) := ⟨_, rfl⟩
  have HBW : Hid (Below w.heap.size w W) := by rw [hW]; exact below_new _
  have HSW : Hid (W.heap.size = w.heap.size + 1) := by rw [hW]; show _ = _; simp
  have x0 : W.cell? ⟨w.heap.size, 0, none⟩ = some (.int .i64 ver) := by rw [hW]; simp [go_sem]
  have x1 : W.cell? ⟨w.heap.size, 1, none⟩ = some (.slice A1 ts.length c1) := by rw [hW]; simp [go_sem]
  have x2 : W.cell? ⟨w.heap.size, 2, none⟩ = some (.slice A2 fr.length c2) := by rw [hW]; simp [go_sem]
  have x3 : W.cell? ⟨w.heap.size, 3, none⟩ = some (.int .i64 token) := by rw [hW]; simp [go_sem]
  have x4 : W.cell? ⟨w.heap.size, 4, none⟩ = some (.int .i64 tag) := by rw [hW]; simp [go_sem]
  have x5 : W.cell? ⟨w.heap.size, 5, none⟩ = some (.int .i64 ver') := by rw [hW]; simp [go_sem]
  have x6 : W.cell? ⟨w.heap.size, 6, none⟩ = some (.slice A3 ts'.length c3) := by rw [hW]; simp [go_sem]
  have x7 : W.cell? ⟨w.heap.size, 7, none⟩ = some (.slice A4 fr'.length c4) := by rw [hW]; simp [go_sem]
  have x8 : W.cell? ⟨w.heap.size, 8, none⟩ = some (.int .i64 token') := by rw [hW]; simp [go_sem]
  have x9 : W.cell? ⟨w.heap.size, 9, none⟩ = some (.int .i64 tag') := by rw [hW]; simp [go_sem]
  have x10 : W.cell? ⟨w.heap.size, 10, none⟩ = some (.slice A5 gs.length c5) := by rw [hW]; simp [go_sem]
  have x11 : W.cell? ⟨w.heap.size, 11, none⟩ = some (.slice A6 os.length c6) := by rw [hW]; simp [go_sem]
  have hlt : w.heap.size < W.heap.size := by have := HSW.out; omega
  go_wp2_with fail
  rw [← hW]
  clear hW
  go_region_held3 (fun w' => (w'.cell? ⟨w.heap.size, 0, none⟩ = some (.int .i64 ver) ∧ w'.cell? ⟨w.heap.size, 1, none⟩ = some (.slice A1 ts.length c1) ∧ w'.cell? ⟨w.heap.size, 2, none⟩ = some (.slice A2 fr.length c2) ∧ w'.cell? ⟨w.heap.size, 3, none⟩ = some (.int .i64 token) ∧ w'.cell? ⟨w.heap.size, 4, none⟩ = some (.int .i64 tag)) ∧
      (w'.cell? ⟨w.heap.size, 5, none⟩ = some (.int .i64 ver') ∧ w'.cell? ⟨w.heap.size, 6, none⟩ = some (.slice A3 ts'.length c3) ∧ w'.cell? ⟨w.heap.size, 7, none⟩ = some (.slice A4 fr'.length c4) ∧ w'.cell? ⟨w.heap.size, 8, none⟩ = some (.int .i64 token') ∧ w'.cell? ⟨w.heap.size, 9, none⟩ = some (.int .i64 tag')) ∧
      w'.cell? ⟨w.heap.size, 10, none⟩ = some (.slice A5 gs.length c5) ∧ w'.cell? ⟨w.heap.size, 11, none⟩ = some (.slice A6 os.length c6)) (first | go_keep) ((first | fail))
  all_goals
    rename_i hHeld
    clear hHeld x0 x1 x2 x3 x4 x5 x6 x7 x8 x9 x10 x11
    first
    | (obtain ⟨V, hV⟩ : ∃ V, V = ((W.alloc (.cells #[.int .i64 ver, .slice A1 ts.length c1, .slice A2 fr.length c2, .int .i64 token, .int .i64 tag] 53)).alloc (.cells #[.int .i64 ver', .slice A3 ts'.length c3, .slice A4 fr'.length c4, .int .i64 token', .int .i64 tag'] 53)).drew := ⟨_, rfl⟩
       rw [← hV]
       have HA : Hid (RetAt V W.heap.size ver A1 ts.length c1 A2 fr.length c2 token tag) := by rw [hV]; exact heap_alloc2_old W _ _
       have HB : Hid (RetAt V (W.heap.size + 1) ver' A3 ts'.length c3 A4 fr'.length c4 token' tag') := by rw [hV]; exact heap_alloc2_new W _ _
       have HBV : Hid (Below w.heap.size w V) := by rw [hV]; exact (((HBW.out.alloc HBW.out.size _).alloc (by simp; omega) _).drew)
       obtain ⟨gB, hgy⟩ : ∃ g, g = W.heap.size + 1 := ⟨_, rfl⟩
       rw [← hgy] at HB ⊢
       have HNE : Hid (gB ≠ W.heap.size) := by show _ ≠ _; omega
       obtain ⟨gA, hgx⟩ : ∃ g, g = W.heap.size := ⟨_, rfl⟩
       rw [← hgx] at HA HNE ⊢
       have HLB : Hid (w.heap.size ≤ gB) := by show _ ≤ _; have := HBW.out.size; omega
       clear hgx hgy hV)
    | (obtain ⟨V, hV⟩ : ∃ V, V = ((W.alloc (.cells #[.int .i64 ver', .slice A3 ts'.length c3, .slice A4 fr'.length c4, .int .i64 token', .int .i64 tag'] 53)).alloc (.cells #[.int .i64 ver, .slice A1 ts.length c1, .slice A2 fr.length c2, .int .i64 token, .int .i64 tag] 53)).drew := ⟨_, rfl⟩
       rw [← hV]
       have HB : Hid (RetAt V W.heap.size ver' A3 ts'.length c3 A4 fr'.length c4 token' tag') := by rw [hV]; exact heap_alloc2_old W _ _
       have HA : Hid (RetAt V (W.heap.size + 1) ver A1 ts.length c1 A2 fr.length c2 token tag) := by rw [hV]; exact heap_alloc2_new W _ _
       have HBV : Hid (Below w.heap.size w V) := by rw [hV]; exact (((HBW.out.alloc HBW.out.size _).alloc (by simp; omega) _).drew)
       obtain ⟨gA, hgy⟩ : ∃ g, g = W.heap.size + 1 := ⟨_, rfl⟩
       rw [← hgy] at HA ⊢
       have HNE : Hid (W.heap.size ≠ gA) := by show _ ≠ _; omega
       obtain ⟨gB, hgx⟩ : ∃ g, g = W.heap.size := ⟨_, rfl⟩
       rw [← hgx] at HB HNE ⊢
       have HLB : Hid (w.heap.size ≤ gB) := by show _ ≤ _; have := HBW.out.size; omega
       clear hgx hgy hV)
    have p0 := HA.out.x0
    have p1 := HA.out.x1
    have p2 := HA.out.x2
    have p3 := HA.out.x3
    have p4 := HA.out.x4
    have q0 := HB.out.x0
    have q1 := HB.out.x1
    have q2 := HB.out.x2
    have q3 := HB.out.x3
    have q4 := HB.out.x4
    clear HSW HBW hlt
    by_cases k1 : 50 < ts.length
    · go_wp2_with fail
      go_ret
      exact ⟨rfl, HBV.out⟩
    by_cases k2 : 50 < fr.length
    · go_wp2_with fail
      go_ret
      exact ⟨rfl, HBV.out⟩
    by_cases k3 : 50 < ts'.length
    · go_wp2_with fail
      go_ret
      exact ⟨rfl, HBV.out⟩
    by_cases k4 : 50 < fr'.length
    · go_wp2_with fail
      go_ret
      exact ⟨rfl, HBV.out⟩
    by_cases k5 : 50 < gs.length
    · go_wp2_with fail
      go_ret
      exact ⟨rfl, HBV.out⟩
    by_cases k6 : 50 < os.length
    · go_wp2_with fail
      go_ret
      exact ⟨rfl, HBV.out⟩
    go_wp2_with fail
    refine (new_any V).mono ?_
    rintro e w1 ⟨tb, rfl, ht1, hb1⟩
    have HA1 := Lib.hid (HA.out.later hb1)
    have HB1 := Lib.hid (HB.out.later hb1)
    have HV1 := Lib.hid (below_next HBV.out HBV.out.size hb1)
    have HT1 := Lib.hid ht1
    have HSV := Lib.hid HBV.out.size
    have HD1 : Hid (Below w1.heap.size w1 w1.drew) := (Below.refl _ _).drew
    clear ht1 hb1 p0 p1 p2 p3 p4 q0 q1 q2 q3 q4 HA HB HBV
    go_wp2_with fail
    have z5 := (HA1.out.later HD1.out).five
    have z6 := (HB1.out.later HD1.out).five
    go_region_held3 (fun w' => (w'.cell? ⟨gA, 0, none⟩ = some (.int .i64 ver) ∧ w'.cell? ⟨gA, 1, none⟩ = some (.slice A1 ts.length c1) ∧ w'.cell? ⟨gA, 2, none⟩ = some (.slice A2 fr.length c2) ∧ w'.cell? ⟨gA, 3, none⟩ = some (.int .i64 token) ∧ w'.cell? ⟨gA, 4, none⟩ = some (.int .i64 tag)) ∧
      (w'.cell? ⟨gB, 0, none⟩ = some (.int .i64 ver') ∧ w'.cell? ⟨gB, 1, none⟩ = some (.slice A3 ts'.length c3) ∧ w'.cell? ⟨gB, 2, none⟩ = some (.slice A4 fr'.length c4) ∧ w'.cell? ⟨gB, 3, none⟩ = some (.int .i64 token') ∧ w'.cell? ⟨gB, 4, none⟩ = some (.int .i64 tag')))
      (first
        | go_keep
        | exact ⟨z5, z6⟩
        | exact ⟨HA2.out.five, HB2.out.five⟩
        | exact ⟨HA3.out.five, HB3.out.five⟩
        | exact ⟨HA4.out.five, HB4.out.five⟩
        | exact ⟨HA5.out.five, HB5.out.five⟩) ((first
      | (go_at_call 35
         have key := retry_any ver token tag A1 A2 _ _ c1 c2 ts fr w1.drew ((H1.out.below HV1.out).below HD1.out) ((H2.out.below HV1.out).below HD1.out) (by omega) (by omega)
         refine key.mono ?_
         clear key
         rintro e w2 ⟨P1, d1, P2, d2, rfl, o1, o2, hb⟩
         have HA2 := Lib.hid ((HA1.out.later HD1.out).later hb)
         have HB2 := Lib.hid ((HB1.out.later HD1.out).later hb)
         have HV2 := Lib.hid (below_next (below_next HV1.out HV1.out.size HD1.out) (by have := HV1.out.size; simpa using this) hb)
         have HT2 := Lib.hid ((HT1.out.below HD1.out).below hb)
         have O1 := Lib.hid (o1.rds (B' := 0))
         have O2 := Lib.hid (o2.rds (B' := 0))
         clear HA1 HB1 HV1 HT1 HD1 o1 o2 hb)
      | (go_at_call 34
         have key := tag_any A5 _ c5 gs ver token tag P1 P2 _ _ d1 d2 ts fr w2 HT2.out ((H5.out.below HV2.out).mono HSV.out) O1.out O2.out
         refine key.mono ?_
         clear key
         rintro e w3 p
         obtain ⟨⟨T3, x⟩, e3⟩ : ∃ r, tagV [] (strOfNums gs) (bodyB ver ts fr token) = r := ⟨_, rfl⟩
         obtain ⟨rfl, ht, hf⟩ := p.intro e3
         have E3 := Lib.hid e3
         have HA3 := Lib.hid (HA2.out.frm hf)
         have HB3 := Lib.hid (HB2.out.frm hf)
         have HV3 := Lib.hid (HV2.out.trans ((hf.weak HSV.out).below HV2.out.size))
         have HT3 := Lib.hid ht
         have HW3 := Lib.hid ht.1
         clear HA2 HB2 HV2 HT2 O1 O2 p e3 ht hf)
      | (go_at_call 35
         have key := retry_any ver' token' tag' A3 A4 _ _ c3 c4 ts' fr' w3 (H3.out.below HV3.out) (H4.out.below HV3.out) (by omega) (by omega)
         refine key.mono ?_
         clear key
         rintro e w4 ⟨P1, d1, P2, d2, rfl, o1, o2, hb⟩
         have HA4 := Lib.hid (HA3.out.later hb)
         have HB4 := Lib.hid (HB3.out.later hb)
         have HV4 := Lib.hid (below_next HV3.out HV3.out.size hb)
         have HT4 := Lib.hid (HT3.out.below hb)
         have O3 := Lib.hid (o1.rds (B' := 0))
         have O4 := Lib.hid (o2.rds (B' := 0))
         clear HA3 HB3 HV3 HT3 o1 o2 hb)
      | (go_at_call 34
         have key := tag_any A6 _ c6 os ver' token' tag' P1 P2 _ _ d1 d2 ts' fr' w4 HT4.out ((H6.out.below HV4.out).mono HSV.out) O3.out O4.out
         refine key.mono ?_
         clear key
         rintro e w5 p
         obtain ⟨⟨T5, y⟩, e5⟩ : ∃ r, tagV T3 (strOfNums os) (bodyB ver' ts' fr' token') = r := ⟨_, rfl⟩
         obtain ⟨rfl, ht, hf⟩ := p.intro e5
         have E5 := Lib.hid e5
         have HA5 := Lib.hid (HA4.out.frm hf)
         have HB5 := Lib.hid (HB4.out.frm hf)
         have HV5 := Lib.hid (HV4.out.trans ((hf.weak HSV.out).below HV4.out.size))
         have HT5 := Lib.hid ht
         clear HA4 HB4 HV4 HT4 O3 O4 p e5 ht hf)))
    all_goals
      rename_i hHeld
      clear hHeld
      have HU := Lib.hid (unlike_plain E3.out E5.out HW3.out HT5.out.1 (by omega) (by omega) Y1.out Y2.out Y3.out Y4.out Y5.out Y6.out)
      clear z5 z6 E3 E5 HW3 HT5 Y1 Y2 Y3 Y4 Y5 Y6 HSV k1 k2 k5 k6
      rcases HU.out with hx | ⟨hx, hy⟩ | ⟨hx, hy, hiff⟩
      · subst hx
        clear HU
        go_wp2_with fail
        refine (awake08_any _).mono ?_
        rintro e w6 ⟨rfl, hb⟩
        have HV6 := Lib.hid (below_next HV5.out HV5.out.size hb)
        clear hb
        go_wp2_with fail
        go_ret
        exact ⟨rfl, HV6.out⟩
      · subst hy
        have hxb : (x == 0) = false := by simp [hx]
        clear HU hx
        go_wp2_with fail
        refine (awake08_any _).mono ?_
        rintro e w6 ⟨rfl, hb⟩
        have HV6 := Lib.hid (below_next HV5.out HV5.out.size hb)
        clear hb
        go_wp2_with fail
        go_ret
        exact ⟨rfl, HV6.out⟩
      have hxb : (x == 0) = false := by simp [hx]
      have hyb : (y == 0) = false := by simp [hy]
      have HI := Lib.hid hiff
      clear HU hx hy hiff
      have p4 := HA5.out.x4
      have q4 := HB5.out.x4
      have f4 := HB5.out.fz 4
      obtain ⟨w6, hw6⟩ : ∃ w6, w6 = w5.setCell ⟨gB, 4, none⟩ (.int .i64 tag) := ⟨_, rfl⟩
      have HB6 : Hid (RetAt w6 gB ver' A3 ts'.length c3 A4 fr'.length c4 token' tag) := by rw [hw6]; exact heap_setCell_same w5 gB 4 _ _ _ HB5.out
      have HA6 : Hid (RetAt w6 gA ver A1 ts.length c1 A2 fr.length c2 token tag) := by rw [hw6]; exact (heap_setCell_other w5 _ _ _ (by simpa using fun h => HNE.out h.symm)).trans HA5.out
      have HV6 : Hid (Below w.heap.size w w6) := by rw [hw6]; exact HV5.out.setCell (by have := HLB.out; exact this) _
      have hws : w6.heap.size = w5.heap.size := by rw [hw6]; simp
      clear HA5 HB5 HV5
      go_wp2_with fail
      rw [← hw6]
      clear hw6 p4 q4 f4 hws
      have HD6 : Hid (Below w6.heap.size w6 w6.drew) := (Below.refl _ _).drew
      have z5 := (HA6.out.later HD6.out).five
      have z6 := (HB6.out.later HD6.out).five
      by_cases hgo : gs = os
      · have HGO := Lib.hid hgo
        clear hgo
        by_cases hr : ver = ver' ∧ ts = ts' ∧ fr = fr' ∧ token = token'
        · have HR := Lib.hid hr
          have hxy : (x == y) = true := by rw [beq_iff_eq]; exact HI.out.2 ⟨HGO.out, hr.1, hr.2.1, hr.2.2.1, hr.2.2.2⟩
          clear hr HI
          go_region_held3 (fun w' => (w'.cell? ⟨gA, 0, none⟩ = some (.int .i64 ver) ∧ w'.cell? ⟨gA, 1, none⟩ = some (.slice A1 ts.length c1) ∧ w'.cell? ⟨gA, 2, none⟩ = some (.slice A2 fr.length c2) ∧ w'.cell? ⟨gA, 3, none⟩ = some (.int .i64 token) ∧ w'.cell? ⟨gA, 4, none⟩ = some (.int .i64 tag)) ∧
                  (w'.cell? ⟨gB, 0, none⟩ = some (.int .i64 ver') ∧ w'.cell? ⟨gB, 1, none⟩ = some (.slice A3 ts'.length c3) ∧ w'.cell? ⟨gB, 2, none⟩ = some (.slice A4 fr'.length c4) ∧ w'.cell? ⟨gB, 3, none⟩ = some (.int .i64 token') ∧ w'.cell? ⟨gB, 4, none⟩ = some (.int .i64 tag)))
            (first
              | go_keep
              | exact ⟨z5, z6⟩
              | exact ⟨HA7.out.five, HB7.out.five⟩
              | exact ⟨HA8.out.five, HB8.out.five⟩
              | exact ⟨HA9.out.five, HB9.out.five⟩
              | exact ⟨HA10.out.five, HB10.out.five⟩) ((first
            | (go_at_call 37
               have key := same_any08 A5 A6 _ _ c5 c6 gs os w6.drew ((H5.out.below HV6.out).below HD6.out) ((H6.out.below HV6.out).below HD6.out)
               refine key.mono ?_
               clear key
               rintro e w7 ⟨rfl, hb⟩
               rw [decide_eq_true HGO.out]
               have HA7 := Lib.hid ((HA6.out.later HD6.out).later hb)
               have HB7 := Lib.hid ((HB6.out.later HD6.out).later hb)
               have HV7 := Lib.hid (below_next (below_next HV6.out HV6.out.size HD6.out) (by have := HV6.out.size; simpa using this) hb)
               clear HA6 HB6 HV6 HD6 hb)
            | (go_at_call 35
               have key := retry_any ver token tag A1 A2 _ _ c1 c2 ts fr w7 (H1.out.below HV7.out) (H2.out.below HV7.out) (by omega) (by omega)
               refine key.mono ?_
               clear key
               rintro e w8 ⟨P1, d1, P2, d2, rfl, o1, o2, hb⟩
               have HA8 := Lib.hid (HA7.out.later hb)
               have HB8 := Lib.hid (HB7.out.later hb)
               have HV8 := Lib.hid (below_next HV7.out HV7.out.size hb)
               have O1 := Lib.hid (o1.rds (B' := 0))
               have O2 := Lib.hid (o2.rds (B' := 0))
               clear HA7 HB7 HV7 o1 o2 hb)
            | (go_at_call 38
               have key := retried_yes ver token tag ver' token' tag P1 P2 A3 A4 _ _ _ _ d1 d2 c3 c4 ts fr ts' fr' w8 O1.out O2.out (H3.out.below HV8.out) (H4.out.below HV8.out) ⟨HR.out.1, HR.out.2.1, HR.out.2.2.1, HR.out.2.2.2, rfl⟩
               refine key.mono ?_
               clear key
               rintro e w9 ⟨rfl, hb⟩
               have HA9 := Lib.hid (HA8.out.later hb)
               have HB9 := Lib.hid (HB8.out.later hb)
               have HV9 := Lib.hid (below_next HV8.out HV8.out.size hb)
               clear HA8 HB8 HV8 O1 O2 hb)
            | (go_at_call 36
               have key := awake08_any w9
               refine key.mono ?_
               clear key
               rintro e w10 ⟨rfl, hb⟩
               have HA10 := Lib.hid (HA9.out.later hb)
               have HB10 := Lib.hid (HB9.out.later hb)
               have HV10 := Lib.hid (below_next HV9.out HV9.out.size hb)
               clear HA9 HB9 HV9 hb)))
          all_goals
            go_wp2_with fail
            go_ret
            exact ⟨rfl, HV10.out⟩
        · have HR := Lib.hid hr
          have hxy : (x == y) = false := by rw [beq_eq_false_iff_ne]; intro h; have := HI.out.1 h; exact hr ⟨this.2.1, this.2.2.1, this.2.2.2.1, this.2.2.2.2⟩
          clear hr HI
          go_region_held3 (fun w' => (w'.cell? ⟨gA, 0, none⟩ = some (.int .i64 ver) ∧ w'.cell? ⟨gA, 1, none⟩ = some (.slice A1 ts.length c1) ∧ w'.cell? ⟨gA, 2, none⟩ = some (.slice A2 fr.length c2) ∧ w'.cell? ⟨gA, 3, none⟩ = some (.int .i64 token) ∧ w'.cell? ⟨gA, 4, none⟩ = some (.int .i64 tag)) ∧
                  (w'.cell? ⟨gB, 0, none⟩ = some (.int .i64 ver') ∧ w'.cell? ⟨gB, 1, none⟩ = some (.slice A3 ts'.length c3) ∧ w'.cell? ⟨gB, 2, none⟩ = some (.slice A4 fr'.length c4) ∧ w'.cell? ⟨gB, 3, none⟩ = some (.int .i64 token') ∧ w'.cell? ⟨gB, 4, none⟩ = some (.int .i64 tag)))
            (first
              | go_keep
              | exact ⟨z5, z6⟩
              | exact ⟨HA7.out.five, HB7.out.five⟩
              | exact ⟨HA8.out.five, HB8.out.five⟩
              | exact ⟨HA9.out.five, HB9.out.five⟩
              | exact ⟨HA10.out.five, HB10.out.five⟩) ((first
            | (go_at_call 37
               have key := same_any08 A5 A6 _ _ c5 c6 gs os w6.drew ((H5.out.below HV6.out).below HD6.out) ((H6.out.below HV6.out).below HD6.out)
               refine key.mono ?_
               clear key
               rintro e w7 ⟨rfl, hb⟩
               rw [decide_eq_true HGO.out]
               have HA7 := Lib.hid ((HA6.out.later HD6.out).later hb)
               have HB7 := Lib.hid ((HB6.out.later HD6.out).later hb)
               have HV7 := Lib.hid (below_next (below_next HV6.out HV6.out.size HD6.out) (by have := HV6.out.size; simpa using this) hb)
               clear HA6 HB6 HV6 HD6 hb)
            | (go_at_call 35
               have key := retry_any ver token tag A1 A2 _ _ c1 c2 ts fr w7 (H1.out.below HV7.out) (H2.out.below HV7.out) (by omega) (by omega)
               refine key.mono ?_
               clear key
               rintro e w8 ⟨P1, d1, P2, d2, rfl, o1, o2, hb⟩
               have HA8 := Lib.hid (HA7.out.later hb)
               have HB8 := Lib.hid (HB7.out.later hb)
               have HV8 := Lib.hid (below_next HV7.out HV7.out.size hb)
               have O1 := Lib.hid (o1.rds (B' := 0))
               have O2 := Lib.hid (o2.rds (B' := 0))
               clear HA7 HB7 HV7 o1 o2 hb)
            | (go_at_call 38
               have key := retried_no ver token tag ver' token' tag P1 P2 A3 A4 _ _ _ _ d1 d2 c3 c4 ts fr ts' fr' w8 O1.out O2.out (H3.out.below HV8.out) (H4.out.below HV8.out) (fun h => HR.out ⟨h.1, h.2.1, h.2.2.1, h.2.2.2.1⟩)
               refine key.mono ?_
               clear key
               rintro e w9 ⟨rfl, hb⟩
               have HA9 := Lib.hid (HA8.out.later hb)
               have HB9 := Lib.hid (HB8.out.later hb)
               have HV9 := Lib.hid (below_next HV8.out HV8.out.size hb)
               clear HA8 HB8 HV8 O1 O2 hb)
            | (go_at_call 36
               have key := awake08_any w9
               refine key.mono ?_
               clear key
               rintro e w10 ⟨rfl, hb⟩
               have HA10 := Lib.hid (HA9.out.later hb)
               have HB10 := Lib.hid (HB9.out.later hb)
               have HV10 := Lib.hid (below_next HV9.out HV9.out.size hb)
               clear HA9 HB9 HV9 hb)))
          all_goals
            go_wp2_with fail
            go_ret
            exact ⟨rfl, HV10.out⟩
      · have HGO := Lib.hid hgo
        have hxy : (x == y) = false := by rw [beq_eq_false_iff_ne]; intro h; exact hgo (HI.out.1 h).1
        clear hgo HI
        go_region_law ((first
          | (go_simp
             go_at_call 37
             have key := same_any08 A5 A6 _ _ c5 c6 gs os w6.drew ((H5.out.below HV6.out).below HD6.out) ((H6.out.below HV6.out).below HD6.out)
             refine key.mono ?_
             clear key
             rintro e w7 ⟨rfl, hb⟩
             rw [decide_eq_false HGO.out]
             have HV7 := Lib.hid (below_next (below_next HV6.out HV6.out.size HD6.out) (by have := HV6.out.size; simpa using this) hb)
             clear HA6 HB6 HV6 HD6 hb z5 z6)
          | (go_simp
             go_at_call 36
             have key := awake08_any w7
             refine key.mono ?_
             clear key
             rintro e w10 ⟨rfl, hb⟩
             have HV10 := Lib.hid (below_next HV7.out HV7.out.size hb)
             clear HV7 hb)))
        all_goals
          go_wp2_with fail
          go_ret
          exact ⟨rfl, HV10.out⟩
theorem specialUnlike_row {v0 : Value} (w : World) (h0 : TwoArg w v0) : Calls Try.prog 8 #[v0] w fun e w' => e = .returned (.bool true) ∧ Below w.heap.size w w' := by
  obtain ⟨ver, A1, c1, A2, c2, ts, fr, token, tag, ver', A1', c1', A2', c2', ts', fr', token', tag', A3, c3, gs, A4, c4, os, rfl, ra, rb, r3, b3, r4, b4⟩ := h0
  exact specialUnlike_walk w A1 A2 A1' A2' A3 A4 c1 c2 c1' c2' c3 c4 ts fr ts' fr' gs os ver token tag ver' token' tag' ra.rto ra.rfr rb.rto rb.rfr r3 r4 ra.bt ra.bf rb.bt rb.bf b3 b4
end Go.Proofs.Ytbcicfgffjgpdaa

/- special.Tagged on a table: of a term that is not there, and of a retry's tag. No condition but the sizes. -/
set_option linter.unusedVariables false
set_option linter.unusedSimpArgs false
namespace Go.Proofs.Ytbcicfgffjgpdaa
open Go Go.RowKit Go.WideMaps

set_option maxHeartbeats 1600000 in
set_option maxRecDepth 100000 in
theorem tagged_none {B B1 B2 tb : Nat} {T : List Nd} (A0 : Option Addr) (n0 c0 : Nat) (ver token tag : Int) (A1 A2 : Option Addr) (n1 n2 c1 c2 : Nat) (ts fr : List Int) (w : World) (ht : IsTab B w tb T)
    (h1 : Rds B1 w .u8 A1 n1 c1 ts) (h2 : Rds B2 w .u8 A2 n2 c2 fr) (hm : Fit tag) (hg : getT T tag = none) :
    Calls Try.prog 39 #[.pointer (some ⟨tb, 0, none⟩), .slice A0 n0 c0, .agg #[.int .i64 ver, .slice A1 n1 c1, .slice A2 n2 c2, .int .i64 token, .int .i64 tag]] w (MacedPost false w) := by
  obtain ⟨W, hW⟩ : ∃ W, W = w.alloc (.cells #[.int .i64 ver, .slice A1 n1 c1, .slice A2 n2 c2, .int .i64 token, .int .i64 tag] 58) := ⟨_, rfl⟩
  have HBW : Hid (Below w.heap.size w W) := by rw [hW]; exact below_new _
  have HSW : Hid (W.heap.size = w.heap.size + 1) := by rw [hW]; show _ = _; simp
  have x0 : W.cell? ⟨w.heap.size, 0, none⟩ = some (.int .i64 ver) := by rw [hW]; simp [go_sem]
  have x1 : W.cell? ⟨w.heap.size, 1, none⟩ = some (.slice A1 n1 c1) := by rw [hW]; simp [go_sem]
  have x2 : W.cell? ⟨w.heap.size, 2, none⟩ = some (.slice A2 n2 c2) := by rw [hW]; simp [go_sem]
  have x3 : W.cell? ⟨w.heap.size, 3, none⟩ = some (.int .i64 token) := by rw [hW]; simp [go_sem]
  have x4 : W.cell? ⟨w.heap.size, 4, none⟩ = some (.int .i64 tag) := by rw [hW]; simp [go_sem]
  have H1 := Lib.hid (h1.below HBW.out)
  have H2 := Lib.hid (h2.below HBW.out)
  have key := look_any tag W (ht.below HBW.out) hm.1 hm.2
  have HG := Lib.hid hg
  clear ht h1 h2 hm hg
  go_enter Try.func39, Try.ntmps39
  go_wp2_with fail
  rw [← hW]
  clear hW
  refine key.mono ?_
  clear key
  rintro e v1 ⟨P1, d1, rfl, ho1, hb1⟩
  rw [show nodeT T tag = ⟨0, ByteArray.empty, []⟩ from by unfold nodeT; rw [HG.out]; rfl, HG.out]
  have y0 := later_cell hb1 x0 (by simp; have := HSW.out; omega)
  have y1 := later_cell hb1 x1 (by simp; have := HSW.out; omega)
  have y2 := later_cell hb1 x2 (by simp; have := HSW.out; omega)
  have y3 := later_cell hb1 x3 (by simp; have := HSW.out; omega)
  have y4 := later_cell hb1 x4 (by simp; have := HSW.out; omega)
  have hl1 : w.heap.size < v1.heap.size := by have := hb1.size; have := HSW.out; omega
  obtain ⟨w1, hw1⟩ : ∃ w1, w1 = v1.alloc (.cells #[.int .i64 0, .string ByteArray.empty, .slice P1 0 d1] 47) := ⟨_, rfl⟩
  have hbn : Below v1.heap.size v1 w1 := by rw [hw1]; exact below_new _
  have hb2 := below_next hb1 hb1.size hbn
  have z0 : w1.cell? ⟨v1.heap.size, 0, none⟩ = some (.int .i64 0) := by rw [hw1]; simp [go_sem]
  have HB1 := Lib.hid (below_next HBW.out HBW.out.size hb2)
  have hv1 : v1.heap.size < w1.heap.size := by rw [hw1]; simp
  have key := body_any ver token tag A1 A2 n1 n2 c1 c2 ts fr w1 (H1.out.below hb2) (H2.out.below hb2)
  clear ho1 hb1 hbn hb2 x0 x1 x2 x3 x4 H1 H2 HG
  go_wp2_with fail
  rw [← hw1]
  clear hw1 y0 y1 y2 y3 y4
  refine key.mono ?_
  clear key
  rintro e w2 ⟨v, rfl, ho2, hb2⟩
  obtain ⟨A, c, rfl⟩ := ho2.slice
  have q0 := later_cell hb2 z0 hv1
  have HB2 := Lib.hid (below_next HB1.out HB1.out.size hb2)
  clear ho2 hb2 z0
  go_wp2_with fail
  go_returns
  exact ⟨rfl, HB2.out⟩

def nodeRow (nd : Nd) (A : Option Addr) (c : Nat) : Obj := .cells #[.int .i64 nd.kind, .string nd.text, .slice A nd.parts.length c] 47
theorem two_parts {w : World} {B : Nat} {A : Option Addr} {c : Nat} {p q : Int} (h : OwnI w B .i64 (.slice A 2 c) [p, q]) : ∃ g, A = some ⟨g, 0, none⟩ ∧ g < w.heap.size ∧ w.cell? ⟨g, 0, none⟩ = some (.int .i64 p) ∧ w.cell? ⟨g, 1, none⟩ = some (.int .i64 q) := by
  obtain ⟨g, cap, q1, -, q3, -, q5, -⟩ := h.form (by simp)
  simp only [Value.slice.injEq] at q1
  obtain ⟨rfl, -, -⟩ := q1
  exact ⟨g, rfl, q3, q5 0 (by simp), q5 1 (by simp)⟩
set_option maxHeartbeats 3200000 in
set_option maxRecDepth 100000 in
theorem tagged_at {B B0 B1 B2 tb : Nat} {T : List Nd} (A0 : Option Addr) (n0 c0 : Nat) (gs : List Int) (ver token tag : Int) (A1 A2 : Option Addr) (n1 n2 c1 c2 : Nat) (ts fr : List Int) (w : World) (ht : IsTab B w tb T)
    (h0 : Rds B0 w .u8 A0 n0 c0 gs) (h1 : Rds B1 w .u8 A1 n1 c1 ts) (h2 : Rds B2 w .u8 A2 n2 c2 fr) {g' b' : ByteArray} (hg : TagAt T tag g' b') (hok : BodyOk ver ts fr token) :
    Calls Try.prog 39 #[.pointer (some ⟨tb, 0, none⟩), .slice A0 n0 c0, .agg #[.int .i64 ver, .slice A1 n1 c1, .slice A2 n2 c2, .int .i64 token, .int .i64 tag]] w (MacedPost (decide (g' = strOfNums gs ∧ b' = strOfNums (bodyB ver ts fr token))) w) := by
  obtain ⟨k, row, gg, xx, t1, t2, t3, t4, t5⟩ := hg
  have E2 := Lib.hid t2
  have E3 := Lib.hid t3
  have E4 := Lib.hid t4
  have E5 := Lib.hid t5
  obtain ⟨W, hW⟩ : ∃ W, W = w.alloc (.cells #[.int .i64 ver, .slice A1 n1 c1, .slice A2 n2 c2, .int .i64 token, .int .i64 tag] 58) := ⟨_, rfl⟩
  have HBW : Hid (Below w.heap.size w W) := by rw [hW]; exact below_new _
  have HSW : Hid (W.heap.size = w.heap.size + 1) := by rw [hW]; show _ = _; simp
  have x0 : W.cell? ⟨w.heap.size, 0, none⟩ = some (.int .i64 ver) := by rw [hW]; simp [go_sem]
  have x1 : W.cell? ⟨w.heap.size, 1, none⟩ = some (.slice A1 n1 c1) := by rw [hW]; simp [go_sem]
  have x2 : W.cell? ⟨w.heap.size, 2, none⟩ = some (.slice A2 n2 c2) := by rw [hW]; simp [go_sem]
  have x3 : W.cell? ⟨w.heap.size, 3, none⟩ = some (.int .i64 token) := by rw [hW]; simp [go_sem]
  have x4 : W.cell? ⟨w.heap.size, 4, none⟩ = some (.int .i64 tag) := by rw [hW]; simp [go_sem]
  have H0 := Lib.hid (h0.below HBW.out)
  have H1 := Lib.hid (h1.below HBW.out)
  have H2 := Lib.hid (h2.below HBW.out)
  have HT := Lib.hid (ht.below HBW.out)
  have key := look_node tag _ W HT.out t1
  have hpos : 0 < (bodyB ver ts fr token).length := by rw [bodyB_len hok]; omega
  obtain ⟨bs, hbs⟩ : ∃ bs, bs = bodyB ver ts fr token := ⟨_, rfl⟩
  rw [← hbs] at hpos ⊢
  have HBS := Lib.hid hbs
  have hpos' : ((bs.length : Int) == 0) = false := beq_zero hpos
  obtain ⟨D, hD⟩ : ∃ D, D = decide (g' = strOfNums gs ∧ b' = strOfNums bs) := ⟨_, rfl⟩
  rw [← hD]
  have HD0 := Lib.hid hD
  clear hD
  clear ht h0 h1 h2 t1 t2 t3 t4 t5 hbs hpos
  go_enter Try.func39, Try.ntmps39
  go_wp2_with fail
  rw [← hW]
  clear hW
  refine key.mono ?_
  clear key
  rintro e v1 ⟨P1, d1, rfl, ho1, hb1⟩
  obtain ⟨g1, rfl, lg1, p0, p1⟩ := two_parts ho1
  have y0 := later_cell hb1 x0 (by simp; have := HSW.out; omega)
  have y1 := later_cell hb1 x1 (by simp; have := HSW.out; omega)
  have y2 := later_cell hb1 x2 (by simp; have := HSW.out; omega)
  have y3 := later_cell hb1 x3 (by simp; have := HSW.out; omega)
  have y4 := later_cell hb1 x4 (by simp; have := HSW.out; omega)
  have hl1 : w.heap.size < v1.heap.size := by have := hb1.size; have := HSW.out; omega
  obtain ⟨w1, hw1⟩ : ∃ w1, w1 = v1.alloc (.cells #[.int .i64 5, .string ByteArray.empty, .slice (some ⟨g1, 0, none⟩) 2 d1] 47) := ⟨_, rfl⟩
  have hbn : Below v1.heap.size v1 w1 := by rw [hw1]; exact below_new _
  have hb2 := below_next hb1 hb1.size hbn
  have a0 : w1.cell? ⟨v1.heap.size, 0, none⟩ = some (.int .i64 5) := by rw [hw1]; simp [go_sem]
  have a2 : w1.cell? ⟨v1.heap.size, 2, none⟩ = some (.slice (some ⟨g1, 0, none⟩) 2 d1) := by rw [hw1]; simp [go_sem]
  replace p0 := later_cell hbn p0 lg1
  replace p1 := later_cell hbn p1 lg1
  have lv1 : v1.heap.size < w1.heap.size := by rw [hw1]; simp
  have HB1 := Lib.hid (below_next HBW.out HBW.out.size hb2)
  have HT1 := Lib.hid (HT.out.below hb2)
  have HR0 := Lib.hid (H0.out.below hb2)
  have key := body_any ver token tag A1 A2 n1 n2 c1 c2 ts fr w1 (H1.out.below hb2) (H2.out.below hb2)
  rw [← HBS.out] at key
  have lg1' : g1 < w1.heap.size := by omega
  clear ho1 hb1 hbn hb2 x0 x1 x2 x3 x4 H0 H1 H2 HT
  go_wp2_with fail
  rw [← hw1]
  clear hw1 y0 y1 y2 y3 y4
  refine key.mono ?_
  clear key
  rintro e w2 ⟨v, rfl, ho2, hb2⟩
  obtain ⟨A, c, rfl⟩ := ho2.slice
  replace a0 := later_cell hb2 a0 lv1
  replace a2 := later_cell hb2 a2 lv1
  replace p0 := later_cell hb2 p0 lg1'
  replace p1 := later_cell hb2 p1 lg1'
  have lv2 : v1.heap.size < w2.heap.size := by have := hb2.size; omega
  have lg2 : g1 < w2.heap.size := by have := hb2.size; omega
  have HB2 := Lib.hid (below_next HB1.out HB1.out.size hb2)
  have HT2 := Lib.hid (HT1.out.below hb2)
  have HR2 := Lib.hid (HR0.out.below hb2)
  have HV2 := Lib.hid (ho2.rds (B' := 0))
  have key := look_node k _ w2 HT2.out E2.out
  clear ho2 hb2 HT1 HB1 HR0 lv1 lg1 lg1' hl1
  go_wp2_with fail
  refine key.mono ?_
  clear key
  rintro e v3 ⟨P3, d3, rfl, ho3, hb3⟩
  replace a2 := later_cell hb3 a2 lv2
  replace p1 := later_cell hb3 p1 lg2
  have lv3 : v1.heap.size < v3.heap.size := by have := hb3.size; omega
  have lg3 : g1 < v3.heap.size := by have := hb3.size; omega
  obtain ⟨w3, hw3⟩ : ∃ w3, w3 = v3.alloc (.cells #[.int .i64 1, .string retryS, .slice P3 0 d3] 47) := ⟨_, rfl⟩
  have hbn : Below v3.heap.size v3 w3 := by rw [hw3]; exact below_new _
  have hb4 := below_next hb3 hb3.size hbn
  have b0 : w3.cell? ⟨v3.heap.size, 0, none⟩ = some (.int .i64 1) := by rw [hw3]; simp [go_sem]
  have b1 : w3.cell? ⟨v3.heap.size, 1, none⟩ = some (.string retryS) := by rw [hw3]; simp [go_sem]
  have lb3 : v3.heap.size < w3.heap.size := by rw [hw3]; simp
  have HB3 := Lib.hid (below_next HB2.out HB2.out.size hb4)
  have HT3 := Lib.hid (HT2.out.below hb4)
  have HR3 := Lib.hid (HR2.out.below hb4)
  have HV3 := Lib.hid (HV2.out.below hb4)
  have key := look_node row _ w3 HT3.out E3.out
  clear ho3 hb3 hbn hb4 HT2 HB2 HR2 HV2 lv2 lg2 a0 p0
  simp only [nT, List.length_nil] at *
  go_wp2_with fail
  rw [← hw3]
  clear hw3 a2 p1
  refine key.mono ?_
  clear key
  rintro e v4 ⟨P4, d4, rfl, ho4, hb4⟩
  obtain ⟨g4, rfl, lg4, p0, p1⟩ := two_parts ho4
  replace b0 := later_cell hb4 b0 lb3
  replace b1 := later_cell hb4 b1 lb3
  have lb4 : v3.heap.size < v4.heap.size := by have := hb4.size; omega
  obtain ⟨w4, hw4⟩ : ∃ w4, w4 = v4.alloc (.cells #[.int .i64 3, .string ByteArray.empty, .slice (some ⟨g4, 0, none⟩) 2 d4] 47) := ⟨_, rfl⟩
  have hbn : Below v4.heap.size v4 w4 := by rw [hw4]; exact below_new _
  have hb5 := below_next hb4 hb4.size hbn
  have q2 : w4.cell? ⟨v4.heap.size, 2, none⟩ = some (.slice (some ⟨g4, 0, none⟩) 2 d4) := by rw [hw4]; simp [go_sem]
  have p1' := later_cell hbn p1 lg4
  have lv4 : v4.heap.size < w4.heap.size := by rw [hw4]; simp
  have lg4' : g4 < w4.heap.size := by omega
  have HB4 := Lib.hid (below_next HB3.out HB3.out.size hb5)
  have HT4 := Lib.hid (HT3.out.below hb5)
  have HR4 := Lib.hid (HR3.out.below hb5)
  have HV4 := Lib.hid (HV3.out.below hb5)
  have key := look_node gg _ w4 HT4.out E4.out
  have hrs : (retryS.toList != retryS.toList) = false := by simp
  have hrs' : ((⟨#[114, 101, 116, 114, 121]⟩ : ByteArray).toList == (⟨#[114, 101, 116, 114, 121]⟩ : ByteArray).toList) = true := by simp
  unfold retryS at b1
  clear ho4 hb4 hbn hb5 HT3 HB3 HR3 HV3
  go_wp2_with fail
  rw [← hw4]
  clear hw4 b0 b1 p0 p1
  refine key.mono ?_
  clear key
  rintro e v5 ⟨P5, d5, rfl, ho5, hb5⟩
  replace q2 := later_cell hb5 q2 lv4
  replace p1' := later_cell hb5 p1' lg4'
  have lv5 : v4.heap.size < v5.heap.size := by have := hb5.size; omega
  have lg5 : g4 < v5.heap.size := by have := hb5.size; omega
  obtain ⟨w5, hw5⟩ : ∃ w5, w5 = v5.alloc (.cells #[.int .i64 1, .string g', .slice P5 0 d5] 47) := ⟨_, rfl⟩
  have hbn : Below v5.heap.size v5 w5 := by rw [hw5]; exact below_new _
  have hb6 := below_next hb5 hb5.size hbn
  have b0 : w5.cell? ⟨v5.heap.size, 0, none⟩ = some (.int .i64 1) := by rw [hw5]; simp [go_sem]
  have b1 : w5.cell? ⟨v5.heap.size, 1, none⟩ = some (.string g') := by rw [hw5]; simp [go_sem]
  have lb5 : v5.heap.size < w5.heap.size := by rw [hw5]; simp
  have HB5 := Lib.hid (below_next HB4.out HB4.out.size hb6)
  have HT5 := Lib.hid (HT4.out.below hb6)
  have HR5 := Lib.hid (HR4.out.below hb6)
  have HV5 := Lib.hid (HV4.out.below hb6)
  have key := look_node xx _ w5 HT5.out E5.out
  clear ho5 hb5 hbn hb6 HT4 HB4 HR4 HV4
  simp only [nT, List.length_nil] at *
  go_wp2_with fail
  rw [← hw5]
  clear hw5 q2 p1'
  refine key.mono ?_
  clear key
  rintro e v6 ⟨P6, d6, rfl, ho6, hb6⟩
  replace b0 := later_cell hb6 b0 lb5
  replace b1 := later_cell hb6 b1 lb5
  have lb6 : v5.heap.size < v6.heap.size := by have := hb6.size; omega
  obtain ⟨w6, hw6⟩ : ∃ w6, w6 = v6.alloc (.cells #[.int .i64 1, .string b', .slice P6 0 d6] 47) := ⟨_, rfl⟩
  have hbn : Below v6.heap.size v6 w6 := by rw [hw6]; exact below_new _
  have hb7 := below_next hb6 hb6.size hbn
  have HB6 := Lib.hid (below_next HB5.out HB5.out.size hb7)
  have HR6 := Lib.hid (HR5.out.below hb7)
  have HV6 := Lib.hid (HV5.out.below hb7)
  have hconv0 := Lib.hid (run_bytes_string HR6.out)
  have hconv1 := Lib.hid (run_bytes_string HV6.out)
  clear ho6 hb6 hbn hb7 HT5 HB5 HR5 HV5
  simp only [nT, List.length_nil] at *
  have hc0 : (convert 27 9 (.slice A0 n0 c0)).run Try.prog (v6.alloc (.cells #[.int .i64 1, .string b', .slice P6 0 d6] 47)) = .ok (.string (strOfNums gs)) (v6.alloc (.cells #[.int .i64 1, .string b', .slice P6 0 d6] 47)) := by rw [← hw6]; exact hconv0.out
  have hc1 : (convert 27 9 (.slice A bs.length c)).run Try.prog (v6.alloc (.cells #[.int .i64 1, .string b', .slice P6 0 d6] 47)) = .ok (.string (strOfNums bs)) (v6.alloc (.cells #[.int .i64 1, .string b', .slice P6 0 d6] 47)) := by rw [← hw6]; exact hconv1.out
  have HB7 : Hid (Below w.heap.size w (v6.alloc (.cells #[.int .i64 1, .string b', .slice P6 0 d6] 47))) := by rw [← hw6]; exact HB6.out
  clear hw6 HR6 HV6 hconv0 hconv1 HB6
  by_cases e1 : g' = strOfNums gs
  · have s1 : (g'.toList == (strOfNums gs).toList) = true := by rw [str_beq]; simp [e1]
    by_cases e2 : b' = strOfNums bs
    · have s2 : (b'.toList == (strOfNums bs).toList) = true := by rw [str_beq]; simp [e2]
      have HD : Hid (D = true) := by show _ = _; rw [HD0.out]; simp [e1, e2]
      clear e1 e2
      go_wp2_with fail
      go_returns
      rw [HD.out]
      exact ⟨rfl, HB7.out⟩
    · have s2 : (b'.toList == (strOfNums bs).toList) = false := by rw [str_beq]; simp [e2]
      have HD : Hid (D = false) := by show _ = _; rw [HD0.out]; simp [e2]
      clear e1 e2
      go_wp2_with fail
      go_returns
      rw [HD.out]
      exact ⟨rfl, HB7.out⟩
  · have s1 : (g'.toList == (strOfNums gs).toList) = false := by rw [str_beq]; simp [e1]
    have HD : Hid (D = false) := by show _ = _; rw [HD0.out]; simp [e1]
    clear e1
    go_wp2_with fail
    go_returns
    rw [HD.out]
    exact ⟨rfl, HB7.out⟩
end Go.Proofs.Ytbcicfgffjgpdaa

/- The walk of SpecialAsks. No condition. Printed by gen_specialasks.py. -/
set_option linter.unusedVariables false
set_option linter.unusedSimpArgs false
namespace Go.Proofs.Ytbcicfgffjgpdaa
open Go Go.RowKit Go.WideMaps

/-- A local retry of the program. -/
def RetX (w : World) (g : Nat) (ver : Int) (A1 : Option Addr) (n1 c1 : Nat) (A2 : Option Addr) (n2 c2 : Nat) (token tag : Int) : Prop :=
  w.heap[g]? = some (.cells #[.int .i64 ver, .slice A1 n1 c1, .slice A2 n2 c2, .int .i64 token, .int .i64 tag] 58 (0, 0))
section
variable {w w' : World} {g : Nat} {ver : Int} {A1 : Option Addr} {n1 c1 : Nat} {A2 : Option Addr} {n2 c2 : Nat} {token tag : Int}
theorem RetX.lt (h : RetX w g ver A1 n1 c1 A2 n2 c2 token tag) : g < w.heap.size := lt_of_get h
theorem RetX.later (h : RetX w g ver A1 n1 c1 A2 n2 c2 token tag) (hb : Below w.heap.size w w') : RetX w' g ver A1 n1 c1 A2 n2 c2 token tag := (hb.block _ h.lt).trans h
theorem RetX.frm {B : Nat} (h : RetX w g ver A1 n1 c1 A2 n2 c2 token tag) (hf : Frm tabO B w w') : RetX w' g ver A1 n1 c1 A2 n2 c2 token tag := hf.block _ _ h (.inr rfl)
theorem RetX.x0 (h : RetX w g ver A1 n1 c1 A2 n2 c2 token tag) : w.cell? ⟨g, 0, none⟩ = some (.int .i64 ver) := by rw [cell_of_row w g 0 _ _ _ h]; rfl
theorem RetX.x1 (h : RetX w g ver A1 n1 c1 A2 n2 c2 token tag) : w.cell? ⟨g, 1, none⟩ = some (.slice A1 n1 c1) := by rw [cell_of_row w g 1 _ _ _ h]; rfl
theorem RetX.x2 (h : RetX w g ver A1 n1 c1 A2 n2 c2 token tag) : w.cell? ⟨g, 2, none⟩ = some (.slice A2 n2 c2) := by rw [cell_of_row w g 2 _ _ _ h]; rfl
theorem RetX.x3 (h : RetX w g ver A1 n1 c1 A2 n2 c2 token tag) : w.cell? ⟨g, 3, none⟩ = some (.int .i64 token) := by rw [cell_of_row w g 3 _ _ _ h]; rfl
theorem RetX.x4 (h : RetX w g ver A1 n1 c1 A2 n2 c2 token tag) : w.cell? ⟨g, 4, none⟩ = some (.int .i64 tag) := by rw [cell_of_row w g 4 _ _ _ h]; rfl
theorem RetX.fz (h : RetX w g ver A1 n1 c1 A2 n2 c2 token tag) (j : Nat) : w.frozen? ⟨g, j, none⟩ = false := frozen_of_row w g j _ _ h
end
/-- Blocks of a local retry. -/
def retO : Obj → Bool
  | .cells _ t _ => t == 58
  | _ => false
theorem retO_sp : ∀ o, retO o = true → spO o = true := by
  intro o h
  unfold retO at h
  unfold spO
  split at h
  · simp only [beq_iff_eq] at h
    subst h
    rfl
  · cases h
theorem tab_ret : ∀ o, tabT o = true → retO o = false := by
  intro o h
  unfold tabT at h
  unfold retO
  split at h
  · simp only [Bool.or_eq_true, beq_iff_eq] at h
    rcases h with rfl | rfl <;> rfl
  · rfl
  · cases h
theorem frm_set {w : World} {B g : Nat} {cur : Array Value} (hg : w.heap[g]? = some (.cells cur 58 (0, 0))) (hB : B ≤ g) (j : Nat) (v : Value) : Frm retO B w (w.setCell ⟨g, j, none⟩ v) := by
  refine ⟨rfl, rfl, rfl, by simp, fun k o hk hh => ?_⟩
  have hne : k ≠ g := by
    rintro rfl
    rcases hh with hh | hh
    · omega
    · rw [hg] at hk
      cases hk
      cases hh
  exact (heap_setCell_other w _ k v hne).trans hk
theorem tab_set {w : World} {B tb g : Nat} {T : List Nd} {cur : Array Value} (h : IsTab B w tb T) (hg : w.heap[g]? = some (.cells cur 58 (0, 0))) (hB : B ≤ g) (j : Nat) (v : Value) : IsTab B (w.setCell ⟨g, j, none⟩ v) tb T :=
  h.frm (frm_set hg hB j v) (Nat.le_refl _) tab_ret retO_sp
theorem rds_set {w : World} {B' g : Nat} {k : IntKind} {A : Option Addr} {n c : Nat} {xs : List Int} {cur : Array Value} (h : Rds B' w k A n c xs) (hg : w.heap[g]? = some (.cells cur 58 (0, 0))) (hB : B' ≤ g) (j : Nat) (v : Value) : Rds B' (w.setCell ⟨g, j, none⟩ v) k A n c xs :=
  h.frm ((frm_set hg hB j v).mono retO_sp)

set_option maxHeartbeats 6400000 in
set_option maxRecDepth 100000 in
theorem specialAsks_walk (w : World) (A1 A2 A3 A4 A5 A6 : Option Addr) (c1 c2 c3 c4 c5 c6 : Nat) (ts fr ts' fr' gs os : List Int) (ver token tag ver' token' tag' : Int)
    (h1 : Rds w.heap.size w .u8 A1 ts.length c1 ts) (h2 : Rds w.heap.size w .u8 A2 fr.length c2 fr) (h5 : Rds w.heap.size w .u8 A5 gs.length c5 gs) (h6 : Rds w.heap.size w .u8 A6 os.length c6 os)
    (b1 : Byt ts) (b2 : Byt fr) (b5 : Byt gs) (b6 : Byt os) (gu : Int) (gu0 : 0 ≤ gu) (gu1 : gu ≤ 255) :
    Calls Try.prog 9 #[.agg #[.int .i64 ver, .slice A1 ts.length c1, .slice A2 fr.length c2, .int .i64 token, .int .i64 tag, .int .i64 ver', .slice A3 ts'.length c3, .slice A4 fr'.length c4, .int .i64 token', .int .i64 tag', .slice A5 gs.length c5, .slice A6 os.length c6], .int .u8 gu] w fun e w' => e = .returned (.bool true) ∧ Below w.heap.size w w' := by
  have H1 := Lib.hid h1
  have H2 := Lib.hid h2
  have H5 := Lib.hid h5
  have H6 := Lib.hid h6
  have Y1 := Lib.hid b1
  have Y2 := Lib.hid b2
  have Y5 := Lib.hid b5
  have Y6 := Lib.hid b6
  clear h1 h2 h5 h6 b1 b2 b5 b6
  go_enter Try.func9, Try.ntmps9
  obtain ⟨W, hW⟩ : ∃ W, W = w.alloc (.cells #[.int .i64 ver, .slice A1 ts.length c1, .slice A2 fr.length c2, .int .i64 token, .int .i64 tag, .int .i64 ver', .slice A3 ts'.length c3, .slice A4 fr'.length c4, .int .i64 token', .int .i64 tag', .slice A5 gs.length c5, .slice A6 os.length c6] 55) := ⟨_, rfl⟩
  have HBW : Hid (Below w.heap.size w W) := by rw [hW]; exact below_new _
  have HSW : Hid (W.heap.size = w.heap.size + 1) := by rw [hW]; show _ = _; simp
  have x0 : W.cell? ⟨w.heap.size, 0, none⟩ = some (.int .i64 ver) := by rw [hW]; simp [go_sem]
  have x1 : W.cell? ⟨w.heap.size, 1, none⟩ = some (.slice A1 ts.length c1) := by rw [hW]; simp [go_sem]
  have x2 : W.cell? ⟨w.heap.size, 2, none⟩ = some (.slice A2 fr.length c2) := by rw [hW]; simp [go_sem]
  have x3 : W.cell? ⟨w.heap.size, 3, none⟩ = some (.int .i64 token) := by rw [hW]; simp [go_sem]
  have x4 : W.cell? ⟨w.heap.size, 4, none⟩ = some (.int .i64 tag) := by rw [hW]; simp [go_sem]
  have x10 : W.cell? ⟨w.heap.size, 10, none⟩ = some (.slice A5 gs.length c5) := by rw [hW]; simp [go_sem]
  have x11 : W.cell? ⟨w.heap.size, 11, none⟩ = some (.slice A6 os.length c6) := by rw [hW]; simp [go_sem]
  have hlt : w.heap.size < W.heap.size := by have := HSW.out; omega
  go_wp2_with fail
  rw [← hW]
  clear hW
  go_region_held3 (fun w' => (w'.cell? ⟨w.heap.size, 0, none⟩ = some (.int .i64 ver) ∧ w'.cell? ⟨w.heap.size, 1, none⟩ = some (.slice A1 ts.length c1) ∧ w'.cell? ⟨w.heap.size, 2, none⟩ = some (.slice A2 fr.length c2) ∧ w'.cell? ⟨w.heap.size, 3, none⟩ = some (.int .i64 token) ∧ w'.cell? ⟨w.heap.size, 4, none⟩ = some (.int .i64 tag)) ∧ w'.cell? ⟨w.heap.size, 10, none⟩ = some (.slice A5 gs.length c5) ∧ w'.cell? ⟨w.heap.size, 11, none⟩ = some (.slice A6 os.length c6)) (first | go_keep) ((first | fail))
  rename_i hHeld
  clear hHeld x0 x1 x2 x3 x4 x10 x11
  obtain ⟨V, hV⟩ : ∃ V, V = (W.alloc (.cells #[.int .i64 ver, .slice A1 ts.length c1, .slice A2 fr.length c2, .int .i64 token, .int .i64 tag] 53)).drew := ⟨_, rfl⟩
  rw [← hV]
  have HA : Hid (RetAt V W.heap.size ver A1 ts.length c1 A2 fr.length c2 token tag) := by rw [hV]; exact heap_alloc_new W _
  have HBV : Hid (Below w.heap.size w V) := by rw [hV]; exact ((HBW.out.alloc HBW.out.size _).drew)
  obtain ⟨gA, hgx⟩ : ∃ g, g = W.heap.size := ⟨_, rfl⟩
  rw [← hgx] at HA ⊢
  clear hgx hV HSW HBW hlt
  have p0 := HA.out.x0
  have p1 := HA.out.x1
  have p2 := HA.out.x2
  have p3 := HA.out.x3
  have p4 := HA.out.x4
  by_cases k1 : 50 < ts.length
  · go_wp2_with fail
    go_ret
    exact ⟨rfl, HBV.out⟩
  by_cases k2 : 50 < fr.length
  · go_wp2_with fail
    go_ret
    exact ⟨rfl, HBV.out⟩
  by_cases k5 : 50 < gs.length
  · go_wp2_with fail
    go_ret
    exact ⟨rfl, HBV.out⟩
  by_cases k6 : 50 < os.length
  · go_wp2_with fail
    go_ret
    exact ⟨rfl, HBV.out⟩
  go_wp2_with fail
  refine (new_any V).mono ?_
  rintro e w1 ⟨tb, rfl, ht1, hb1⟩
  have HA1 := Lib.hid (HA.out.later hb1)
  have HV1 := Lib.hid (below_next HBV.out HBV.out.size hb1)
  have HT1 := Lib.hid ht1
  have HSV := Lib.hid HBV.out.size
  have HSV1 := Lib.hid hb1.size
  clear ht1 hb1 p0 p1 p2 p3 p4 HA HBV
  have p0 := HA1.out.x0
  have p1 := HA1.out.x1
  have p2 := HA1.out.x2
  have p3 := HA1.out.x3
  have p4 := HA1.out.x4
  have key := retry_any ver token tag A1 A2 _ _ c1 c2 ts fr w1 (H1.out.below HV1.out) (H2.out.below HV1.out) (by omega) (by omega)
  go_wp2_with fail
  refine key.mono ?_
  clear key
  rintro e w2 ⟨P1, d1, P2, d2, rfl, o1, o2, hb⟩
  have HV2 := Lib.hid (below_next HV1.out HV1.out.size hb)
  have HT2 := Lib.hid (HT1.out.below hb)
  have O1 := Lib.hid (o1.rds (B' := V.heap.size))
  have O2 := Lib.hid (o2.rds (B' := V.heap.size))
  have HS2 : Hid (V.heap.size ≤ w2.heap.size) := by show _ ≤ _; have := HSV1.out; have := hb.size; omega
  clear o1 o2 hb p0 p1 p2 p3 p4 HA1 HV1 HT1 HSV1
  have htm : Int.tmod gu 20 = gu % 20 := Int.tmod_eq_emod_of_nonneg gu0
  have hg0 : 0 ≤ gu % 20 := by omega
  have hg1 : gu % 20 ≤ 19 := by omega
  obtain ⟨X, hX⟩ : ∃ X, X = w2.alloc (.cells #[.int .i64 ver, .slice P1 ts.length d1, .slice P2 fr.length d2, .int .i64 token, .int .i64 (gu % 20 + 1)] 58) := ⟨_, rfl⟩
  have HBX : Hid (Below w2.heap.size w2 X) := by rw [hX]; exact below_new _
  have HX : Hid (RetX X w2.heap.size ver P1 ts.length d1 P2 fr.length d2 token (gu % 20 + 1)) := by rw [hX]; exact heap_alloc_new w2 _
  have HVX := Lib.hid (below_next HV2.out HV2.out.size HBX.out)
  have HTX := Lib.hid (HT2.out.below HBX.out)
  have OX1 := Lib.hid (O1.out.below HBX.out)
  have OX2 := Lib.hid (O2.out.below HBX.out)
  have key := tagged_none A5 gs.length c5 ver token (gu % 20 + 1) P1 P2 _ _ d1 d2 ts fr X HTX.out OX1.out OX2.out ⟨by omega, by omega⟩ (by unfold getT; split <;> simp)
  clear HV2 HT2 O1 O2 HBX
  go_wp2_with fail
  rw [← hX]
  clear hX
  obtain ⟨gx, hgx⟩ : ∃ g, g = w2.heap.size := ⟨_, rfl⟩
  rw [← hgx] at HX HS2 ⊢
  clear hgx
  refine key.mono ?_
  clear key
  rintro e w3 ⟨rfl, hb⟩
  have HX3 := Lib.hid (HX.out.later hb)
  have HV3 := Lib.hid (below_next HVX.out HVX.out.size hb)
  have HT3 := Lib.hid (HTX.out.below hb)
  have O31 := Lib.hid (OX1.out.below hb)
  have O32 := Lib.hid (OX2.out.below hb)
  clear hb HX HVX HTX OX1 OX2 htm
  have key := size_any w3 HT3.out
  go_wp2_with fail
  refine key.mono ?_
  clear key
  rintro e w3' ⟨rfl, rfl⟩
  simp only [List.length_nil]
  have p0 := HX3.out.x0
  have p1 := HX3.out.x1
  have p2 := HX3.out.x2
  have p3 := HX3.out.x3
  have p4 := HX3.out.x4
  have key := tag_any A5 _ c5 gs ver token (gu % 20 + 1) P1 P2 _ _ d1 d2 ts fr w3 HT3.out ((H5.out.below HV3.out).mono HSV.out) O31.out O32.out
  go_wp2_with fail
  refine key.mono ?_
  clear key
  rintro e w4 p
  obtain ⟨⟨T4, x⟩, e4⟩ : ∃ r, tagV [] (strOfNums gs) (bodyB ver ts fr token) = r := ⟨_, rfl⟩
  obtain ⟨rfl, ht, hf⟩ := p.intro e4
  have E4 := Lib.hid e4
  have HX4 := Lib.hid (HX3.out.frm hf)
  have HV4 := Lib.hid (HV3.out.trans ((hf.weak HSV.out).below HV3.out.size))
  have HT4 := Lib.hid ht
  have O41 := Lib.hid (O31.out.frm hf.tab_sp)
  have O42 := Lib.hid (O32.out.frm hf.tab_sp)
  clear p e4 ht hf HX3 HV3 HT3 O31 O32 p0 p1 p2 p3 p4
  have p4 := HX4.out.x4
  have f4 := HX4.out.fz 4
  obtain ⟨w5, hw5⟩ : ∃ w5, w5 = w4.setCell ⟨gx, 4, none⟩ (.int .i64 x) := ⟨_, rfl⟩
  have HX5 : Hid (RetX w5 gx ver P1 ts.length d1 P2 fr.length d2 token x) := by rw [hw5]; exact heap_setCell_same w4 gx 4 _ _ _ HX4.out
  have HV5 : Hid (Below w.heap.size w w5) := by rw [hw5]; exact HV4.out.setCell (by have := HS2.out; have := HSV.out; show _ ≤ gx; omega) _
  have HT5 : Hid (IsTab V.heap.size w5 tb T4) := by rw [hw5]; exact tab_set HT4.out HX4.out HS2.out 4 _
  have O51 : Hid (Rds V.heap.size w5 .u8 P1 ts.length d1 ts) := by rw [hw5]; exact rds_set O41.out HX4.out HS2.out 4 _
  have O52 : Hid (Rds V.heap.size w5 .u8 P2 fr.length d2 fr) := by rw [hw5]; exact rds_set O42.out HX4.out HS2.out 4 _
  have p4' : w5.cell? ⟨gx, 4, none⟩ = some (.int .i64 x) := HX5.out.x4
  clear HX4 HV4 HT4 O41 O42
  by_cases hok : BodyOk ver ts fr token
  rotate_left
  · have hx : x = 0 := by have := E4.out; rw [tagV_no hok] at this; cases this; rfl
    subst hx
    clear hok
    go_wp2_with fail
    rw [← hw5]
    clear hw5 p4 f4
    refine (awake08_any _).mono ?_
    rintro e w6 ⟨rfl, hb⟩
    have HV6 := Lib.hid (below_next HV5.out HV5.out.size hb)
    clear hb
    go_wp2_with fail
    go_ret
    exact ⟨rfl, HV6.out⟩
  obtain ⟨tA, xA⟩ := tagV_at wfT_nil (by simp) (by omega) hok E4.out
  have hx0 : (x == 0) = false := by simp [tag_pos tA]
  have TA := Lib.hid tA
  have OK := Lib.hid hok
  have hv0 := hok.2.1.1
  have hv1 := hok.2.1.2
  clear tA xA hok E4
  have key := size_any w5 HT5.out
  go_wp2_with fail
  rw [← hw5]
  clear hw5 p4 f4 p4'
  refine key.mono ?_
  clear key
  rintro e w5' ⟨rfl, rfl⟩
  have p0 := HX5.out.x0
  have p1 := HX5.out.x1
  have p2 := HX5.out.x2
  have p3 := HX5.out.x3
  have p4 := HX5.out.x4
  have htm : Int.tmod ver 7 = ver % 7 := Int.tmod_eq_emod_of_nonneg (by omega)
  have hm0 : 0 ≤ ver % 7 := by omega
  have hm1 : ver % 7 ≤ 6 := by omega
  obtain ⟨w6, hw6⟩ : ∃ X, X = w5.alloc (.cells #[.int .i64 (ver % 7 + 8), .slice P1 ts.length d1, .slice P2 fr.length d2, .int .i64 token, .int .i64 x] 58) := ⟨_, rfl⟩
  have HB6 : Hid (Below w5.heap.size w5 w6) := by rw [hw6]; exact below_new _
  have HY6 : Hid (RetX w6 w5.heap.size (ver % 7 + 8) P1 ts.length d1 P2 fr.length d2 token x) := by rw [hw6]; exact heap_alloc_new w5 _
  have HX6 := Lib.hid (HX5.out.later HB6.out)
  have HV6 := Lib.hid (below_next HV5.out HV5.out.size HB6.out)
  have HT6 := Lib.hid (HT5.out.below HB6.out)
  have O61 := Lib.hid (O51.out.below HB6.out)
  have O62 := Lib.hid (O52.out.below HB6.out)
  have hgl : gx < w5.heap.size := HX5.out.lt
  have key := tagged_at A5 _ c5 gs ver token x P1 P2 _ _ d1 d2 ts fr w6 HT6.out (H5.out.below HV6.out) O61.out O62.out TA.out OK.out
  rw [decide_eq_true (p := strOfNums gs = strOfNums gs ∧ strOfNums (bodyB ver ts fr token) = strOfNums (bodyB ver ts fr token)) ⟨rfl, rfl⟩] at key
  clear HX5 HV5 HT5 O51 O52 HB6
  go_wp2_with fail
  rw [← hw6]
  clear hw6
  obtain ⟨gy, hgy⟩ : ∃ g, g = w5.heap.size := ⟨_, rfl⟩
  rw [← hgy] at HY6 ⊢
  clear hgy hgl htm p0 p1 p2 p3 p4
  refine key.mono ?_
  clear key
  rintro e w7 ⟨rfl, hb⟩
  have HX7 := Lib.hid (HX6.out.later hb)
  have HY7 := Lib.hid (HY6.out.later hb)
  have HV7 := Lib.hid (below_next HV6.out HV6.out.size hb)
  have HT7 := Lib.hid (HT6.out.below hb)
  have O71 := Lib.hid (O61.out.below hb)
  have O72 := Lib.hid (O62.out.below hb)
  clear hb HX6 HY6 HV6 HT6 O61 O62
  have p0 := HX7.out.x0
  have p1 := HX7.out.x1
  have p2 := HX7.out.x2
  have p3 := HX7.out.x3
  have p4 := HX7.out.x4
  have hdo : decide (strOfNums gs = strOfNums os ∧ strOfNums (bodyB ver ts fr token) = strOfNums (bodyB ver ts fr token)) = decide (gs = os) := by
    by_cases h : gs = os
    · subst h; simp
    · rw [decide_eq_false h, decide_eq_false]; exact fun k => h (strOfNums_inj Y5.out Y6.out k.1)
  have key := tagged_at A6 _ c6 os ver token x P1 P2 _ _ d1 d2 ts fr w7 HT7.out (H6.out.below HV7.out) O71.out O72.out TA.out OK.out
  rw [hdo] at key
  clear hdo
  go_wp2_with fail
  refine key.mono ?_
  clear key
  rintro e w8 ⟨rfl, hb⟩
  have HX8 := Lib.hid (HX7.out.later hb)
  have HY8 := Lib.hid (HY7.out.later hb)
  have HV8 := Lib.hid (below_next HV7.out HV7.out.size hb)
  have HT8 := Lib.hid (HT7.out.below hb)
  have O81 := Lib.hid (O71.out.below hb)
  have O82 := Lib.hid (O72.out.below hb)
  clear hb HX7 HY7 HV7 HT7 O71 O72 p0 p1 p2 p3 p4
  have key := same_any08 A5 A6 _ _ c5 c6 gs os w8 (H5.out.below HV8.out) (H6.out.below HV8.out)
  obtain ⟨D, hD⟩ : ∃ D, D = decide (gs = os) := ⟨_, rfl⟩
  unfold SamePost08 at key
  rw [← hD] at key ⊢
  have hDD : (D == D) = true := by simp
  clear hD
  go_wp2_with fail
  refine key.mono ?_
  clear key
  rintro e w9 ⟨rfl, hb⟩
  have HX9 := Lib.hid (HX8.out.later hb)
  have HY9 := Lib.hid (HY8.out.later hb)
  have HV9 := Lib.hid (below_next HV8.out HV8.out.size hb)
  have HT9 := Lib.hid (HT8.out.below hb)
  have O91 := Lib.hid (O81.out.below hb)
  have O92 := Lib.hid (O82.out.below hb)
  clear hb HX8 HY8 HV8 HT8 O81 O82
  have p0 := HX9.out.x0
  have q0 := HY9.out.x0
  have q1 := HY9.out.x1
  have q2 := HY9.out.x2
  have q3 := HY9.out.x3
  have q4 := HY9.out.x4
  by_cases hvv : ver % 7 + 8 = ver
  · have hvb : (ver % 7 + 8 == ver) = true := by rw [beq_iff_eq]; exact hvv
    clear hvv
    have key := size_any w9 HT9.out
    go_wp2_with fail
    refine key.mono ?_
    clear key
    rintro e w9' ⟨rfl, rfl⟩
    go_wp2_with fail
    refine (awake08_any _).mono ?_
    rintro e w10 ⟨rfl, hb⟩
    have HV10 := Lib.hid (below_next HV9.out HV9.out.size hb)
    clear hb
    go_wp2_with fail
    go_ret
    exact ⟨rfl, HV10.out⟩
  · have hvb : (ver % 7 + 8 == ver) = false := by rw [beq_eq_false_iff_ne]; exact hvv
    have hok' : BodyOk (ver % 7 + 8) ts fr token := ⟨OK.out.1, ⟨by omega, by omega⟩, OK.out.2.2⟩
    have key := tagged_at A5 _ c5 gs (ver % 7 + 8) token x P1 P2 _ _ d1 d2 ts fr w9 HT9.out (H5.out.below HV9.out) O91.out O92.out TA.out hok'
    rw [decide_eq_false (fun h => hvv (bodyB_inj OK.out hok' (strOfNums_inj (bodyB_byt OK.out Y1.out Y2.out) (bodyB_byt hok' Y1.out Y2.out) h.2)).1.symm)] at key
    clear hvv hok'
    go_wp2_with fail
    refine key.mono ?_
    clear key
    rintro e w10 ⟨rfl, hb⟩
    have HV10 := Lib.hid (below_next HV9.out HV9.out.size hb)
    have HT10 := Lib.hid (HT9.out.below hb)
    clear hb
    have key := size_any w10 HT10.out
    go_wp2_with fail
    refine key.mono ?_
    clear key
    rintro e w10' ⟨rfl, rfl⟩
    go_wp2_with fail
    refine (awake08_any _).mono ?_
    rintro e w11 ⟨rfl, hb⟩
    have HV11 := Lib.hid (below_next HV10.out HV10.out.size hb)
    clear hb
    go_wp2_with fail
    go_ret
    exact ⟨rfl, HV11.out⟩
theorem specialAsks_row {v0 : Value} (w : World) (h0 : TwoArg w v0) (gu : Int) (hgu : (Lit.int .u8 gu).wf = true) : Calls Try.prog 9 #[v0, .int .u8 gu] w fun e w' => e = .returned (.bool true) ∧ Below w.heap.size w w' := by
  obtain ⟨ver, A1, c1, A2, c2, ts, fr, token, tag, ver', A1', c1', A2', c2', ts', fr', token', tag', A3, c3, gs, A4, c4, os, rfl, ra, rb, r3, b3, r4, b4⟩ := h0
  exact specialAsks_walk w A1 A2 A1' A2' A3 A4 c1 c2 c1' c2' c3 c4 ts fr ts' fr' gs os ver token tag ver' token' tag' ra.rto ra.rfr r3 r4 ra.bt ra.bf b3 b4 gu (wf_byte hgu).1 (wf_byte hgu).2
end Go.Proofs.Ytbcicfgffjgpdaa
