/- Plain: what the terms of layers 4 and 15 are made of. No condition. -/
import Derived.Test.YtomopjpfdmpgpaaDerives
import Derived.Test.YtomopjpfdmpgpaaPureStep
set_option linter.unusedVariables false
set_option linter.unusedSimpArgs false
namespace Go.Proofs.Ytomopjpfdmpgpaa
open Go Go.RowKit

/-- T' holds all of T, and at most n more. -/
def Ext (n : Nat) (T T' : List Nd) : Prop := ∃ R, T' = T ++ R ∧ R.length ≤ n
theorem Ext.refl (T : List Nd) : Ext 0 T T := ⟨[], by simp, by simp⟩
theorem Ext.trans {n m : Nat} {T T' T'' : List Nd} (h : Ext n T T') (k : Ext m T' T'') : Ext (n + m) T T'' := by
  obtain ⟨R, rfl, h2⟩ := h
  obtain ⟨S, rfl, k2⟩ := k
  exact ⟨R ++ S, by simp, by simp; omega⟩
theorem Ext.mono {n m : Nat} {T T' : List Nd} (h : Ext n T T') (hm : n ≤ m) : Ext m T T' := by
  obtain ⟨R, h1, h2⟩ := h
  exact ⟨R, h1, by omega⟩
theorem Ext.get {n : Nat} {T T' : List Nd} (h : Ext n T T') {x : Int} {m : Nd} (e : getT T x = some m) : getT T' x = some m := by
  obtain ⟨R, rfl, _⟩ := h
  exact getT_mono e
theorem Ext.len {n : Nat} {T T' : List Nd} (h : Ext n T T') : T'.length ≤ T.length + n := by
  obtain ⟨R, rfl, h2⟩ := h
  simp; omega
theorem Ext.le {n : Nat} {T T' : List Nd} (h : Ext n T T') : T.length ≤ T'.length := by
  obtain ⟨R, rfl, h2⟩ := h
  simp
/-- A number that a term has. -/
def In (T : List Nd) (x : Int) : Prop := ∃ n, getT T x = some n
theorem In.ext {n : Nat} {T T' : List Nd} {x : Int} (h : In T x) (e : Ext n T T') : In T' x := by
  obtain ⟨m, hm⟩ := h
  exact ⟨m, e.get hm⟩
theorem In.range {T : List Nd} {x : Int} (h : In T x) : 1 ≤ x ∧ x ≤ T.length := by
  obtain ⟨m, hm⟩ := h
  exact getT_range hm
theorem In.kind {T : List Nd} (hw : WfT T) {x : Int} (h : In T x) : kindT T x ≠ 0 := by
  obtain ⟨m, hm⟩ := h
  rw [kindT_get hm]
  have := (hw.get hm).kind
  omega
theorem In.of {T : List Nd} {x : Int} {m : Nd} (h : getT T x = some m) : In T x := ⟨m, h⟩
theorem kind_out {T : List Nd} {x : Int} (h : ¬ In T x) : kindT T x = 0 := by
  unfold kindT
  cases e : getT T x with
  | none => rfl
  | some n => exact absurd ⟨n, e⟩ h
theorem out_of {T : List Nd} {x : Int} (h : ¬(1 ≤ x ∧ x ≤ T.length)) : ¬ In T x := fun k => h k.range

theorem addT_ext1 (T : List Nd) (n : Nd) : Ext 1 T (addT T n).1 := by
  unfold addT
  split
  · exact ⟨[], by simp, by simp⟩
  · split
    · exact ⟨[], by simp, by simp⟩
    · exact ⟨[n], rfl, by simp⟩
theorem textT_ext (T : List Nd) (b : ByteArray) : Ext 1 T (textT T b).1 := by
  unfold textT
  split
  · exact addT_ext1 _ _
  · exact (Ext.refl _).mono (by omega)
theorem makeT_ext (T : List Nd) (k : Int) (p : List Int) : Ext 1 T (makeT T k p).1 := by
  unfold makeT
  split
  · exact (Ext.refl _).mono (by omega)
  · exact addT_ext1 _ _
theorem secretT_ext (T : List Nd) : Ext 1 T (secretT T).1 := addT_ext1 _ _
theorem text_get {T : List Nd} {b : ByteArray} (hb : b.size ≤ 2048) (hl : T.length < 65536) : getT (textT T b).1 (textT T b).2 = some (nT b) := (textT_spec hb hl).1
theorem secret_get {T : List Nd} (hl : T.length < 65536) : getT (secretT T).1 (secretT T).2 = some ⟨2, ByteArray.empty, []⟩ := (addT_spec hl).1
theorem secret_new {T : List Nd} (hl : T.length < 65536) : secretT T = (T ++ [⟨2, ByteArray.empty, []⟩], (T.length : Int) + 1) := by
  unfold secretT addT
  rw [if_pos rfl]
  simp only [if_neg (show ¬ T.length = 65536 by omega)]
theorem make_get {T : List Nd} {k : Int} {p : List Int} (h : (0 : Int) ∉ p.map (kindT T)) (h' : formedT k (p.map (kindT T)) = true) (hl : T.length < 65536) : getT (makeT T k p).1 (makeT T k p).2 = some ⟨k, ByteArray.empty, ownT T k p⟩ := by
  rw [make_yes h h']
  exact (addT_spec hl).1
theorem no_zero_in {T : List Nd} (hw : WfT T) {p : List Int} (h : ∀ x ∈ p, In T x) : (0 : Int) ∉ p.map (kindT T) := fun h0 => by
  obtain ⟨x, hx, e⟩ := List.mem_map.1 h0
  exact (h x hx).kind hw e
theorem make_row {T : List Nd} (hw : WfT T) (hl : T.length < 65536) {p : List Int} (h : ∀ x ∈ p, In T x) (hn : p.length ≤ 16) : getT (makeT T 3 p).1 (makeT T 3 p).2 = some ⟨3, ByteArray.empty, p⟩ :=
  make_get (no_zero_in hw h) (by simp [formedT]; exact hn) hl
theorem make_hash {T : List Nd} (hw : WfT T) (hl : T.length < 65536) {x : Int} (h : In T x) : getT (makeT T 4 [x]).1 (makeT T 4 [x]).2 = some ⟨4, ByteArray.empty, [x]⟩ :=
  make_get (no_zero_in hw (by simpa using h)) (by simp [formedT]) hl
theorem make_mac {T : List Nd} (hw : WfT T) (hl : T.length < 65536) {x y : Int} (hx : In T x) (hy : In T y) : getT (makeT T 5 [x, y]).1 (makeT T 5 [x, y]).2 = some ⟨5, ByteArray.empty, [x, y]⟩ :=
  make_get (no_zero_in hw (by simp; exact ⟨hx, hy⟩)) (by simp [formedT]) hl
theorem make_public {T : List Nd} (hw : WfT T) (hl : T.length < 65536) {x : Int} (h : kindT T x = 2) : getT (makeT T 7 [x]).1 (makeT T 7 [x]).2 = some ⟨7, ByteArray.empty, [x]⟩ :=
  make_get (by simp [h]) (by simp [formedT, nth, h]) hl
theorem make_shared {T : List Nd} (hw : WfT T) (hl : T.length < 65536) {x y s : Int} {n : Nd} (h : kindT T x = 2) (hy : getT T y = some n) (hk : n.kind = 7) (hs : nth n.parts 0 = s) : getT (makeT T 8 [x, y]).1 (makeT T 8 [x, y]).2 = some ⟨8, ByteArray.empty, sort2 x s⟩ := by
  have h7 : kindT T y = 7 := by rw [kindT_get hy, hk]
  have := make_get (T := T) (k := 8) (p := [x, y]) (by simp [h, h7]) (by simp [formedT, nth, h, h7]) hl
  rw [this]
  unfold ownT
  rw [if_pos rfl, show nth [x, y] 1 = y from rfl, hy]
  show some (Nd.mk 8 ByteArray.empty (sort2 x (nth n.parts 0))) = _
  rw [hs]
theorem make_sealed {T : List Nd} (hw : WfT T) (hl : T.length < 65536) {k h c : Int} {b : ByteArray} (hk : In T k) (hh : getT T h = some (nT b)) (hc : In T c) {q : Int} (hq : q = 6 ∨ q = 10) : getT (makeT T q [k, h, c]).1 (makeT T q [k, h, c]).2 = some ⟨q, ByteArray.empty, [k, h, c]⟩ := by
  have h1 : kindT T h = 1 := by rw [kindT_get hh]; rfl
  have := make_get (T := T) (k := q) (p := [k, h, c]) (no_zero_in hw (by simp; exact ⟨hk, .of hh, hc⟩)) (by rcases hq with rfl | rfl <;> simp [formedT, nth, h1]) hl
  rw [this]
  rcases hq with rfl | rfl <;> rfl

/-- What is made of a term that is none is none. -/
theorem make_out {T : List Nd} {k : Int} {p : List Int} {x : Int} (hx : x ∈ p) (h : ¬ In T x) : makeT T k p = (T, 0) := make_no1 (List.mem_map.2 ⟨x, hx, kind_out h⟩)

/-! ### Derived ones -/
def DerAt (T : List Nd) (x s : Int) (l : ByteArray) (c : Int) : Prop := ∃ ha, getT T x = some ⟨6, ByteArray.empty, [s, ha, c]⟩ ∧ getT T ha = some (nT l)
def Der0 (T : List Nd) (x s : Int) (l : ByteArray) : Prop := ∃ c, DerAt T x s l c ∧ getT T c = some (nT ByteArray.empty)
theorem DerAt.ext {n : Nat} {T T' : List Nd} {x s c : Int} {l : ByteArray} (h : DerAt T x s l c) (e : Ext n T T') : DerAt T' x s l c := by
  obtain ⟨ha, h1, h2⟩ := h
  exact ⟨ha, e.get h1, e.get h2⟩
theorem Der0.ext {n : Nat} {T T' : List Nd} {x s : Int} {l : ByteArray} (h : Der0 T x s l) (e : Ext n T T') : Der0 T' x s l := by
  obtain ⟨c, h1, h2⟩ := h
  exact ⟨c, h1.ext e, e.get h2⟩
theorem DerAt.in_ {T : List Nd} {x s c : Int} {l : ByteArray} (h : DerAt T x s l c) : In T x := by
  obtain ⟨ha, h1, h2⟩ := h
  exact ⟨_, h1⟩
theorem Der0.in_ {T : List Nd} {x s : Int} {l : ByteArray} (h : Der0 T x s l) : In T x := by
  obtain ⟨c, h1, h2⟩ := h
  exact h1.in_
theorem nT_inj {a b : ByteArray} (h : nT a = nT b) : a = b := by simpa [nT] using h
theorem getT_fun {T : List Nd} {x : Int} {m n : Nd} (h : getT T x = some m) (k : getT T x = some n) : m = n := Option.some.inj (h.symm.trans k)
theorem DerAt.inj {T : List Nd} {x s s' c c' : Int} {l l' : ByteArray} (h : DerAt T x s l c) (k : DerAt T x s' l' c') : s = s' ∧ l = l' ∧ c = c' := by
  obtain ⟨ha, h1, h2⟩ := h
  obtain ⟨ka, k1, k2⟩ := k
  have := getT_fun h1 k1
  simp only [Nd.mk.injEq, List.cons.injEq, and_true, true_and] at this
  obtain ⟨rfl, rfl, rfl⟩ := this
  exact ⟨rfl, nT_inj (getT_fun h2 k2), rfl⟩
theorem text_uniq {T : List Nd} (hw : WfT T) {x y : Int} {b : ByteArray} (h : getT T x = some (nT b)) (k : getT T y = some (nT b)) : x = y := getT_uniq hw h k (by simp [nT])
theorem DerAt.uniq {T : List Nd} (hw : WfT T) {x y s c : Int} {l : ByteArray} (h : DerAt T x s l c) (k : DerAt T y s l c) : x = y := by
  obtain ⟨ha, h1, h2⟩ := h
  obtain ⟨ka, k1, k2⟩ := k
  obtain rfl := text_uniq hw h2 k2
  exact getT_uniq hw h1 k1 (by simp)
theorem Der0.inj {T : List Nd} {x s s' : Int} {l l' : ByteArray} (h : Der0 T x s l) (k : Der0 T x s' l') : s = s' ∧ l = l' := by
  obtain ⟨c, h1, h2⟩ := h
  obtain ⟨c', k1, k2⟩ := k
  exact ⟨(h1.inj k1).1, (h1.inj k1).2.1⟩
theorem Der0.uniq {T : List Nd} (hw : WfT T) {x y s : Int} {l : ByteArray} (h : Der0 T x s l) (k : Der0 T y s l) : x = y := by
  obtain ⟨c, h1, h2⟩ := h
  obtain ⟨c', k1, k2⟩ := k
  obtain rfl := text_uniq hw h2 k2
  exact h1.uniq hw k1
theorem der_ctx {T : List Nd} {s c : Int} {l : ByteArray} (hw : WfT T) (hl : l.size ≤ 2048) (hT : T.length < 60000) (hs : In T s) (hc : In T c) :
    DerAt (deriveT T s l c).1 (deriveT T s l c).2 s l c ∧ Ext 3 T (deriveT T s l c).1 := by
  obtain ⟨ns, es⟩ := hs
  obtain ⟨nc, ec⟩ := hc
  have k1 := (hw.get es).kind
  have k3 := (hw.get ec).kind
  have hc0 := getT_range ec
  obtain ⟨ha, c', D⟩ := deriveT_spec (c := c) hl hT es (by omega) (fun _ => ec) (fun _ => by omega)
  have := D.ctx1 (by omega)
  have h1 := D.node
  rw [this] at h1
  exact ⟨⟨ha, h1, D.text⟩, D.sub⟩
theorem der_zero {T : List Nd} {s : Int} {l : ByteArray} (hw : WfT T) (hl : l.size ≤ 2048) (hT : T.length < 60000) (hs : In T s) :
    Der0 (deriveT T s l 0).1 (deriveT T s l 0).2 s l ∧ Ext 3 T (deriveT T s l 0).1 := by
  obtain ⟨ns, es⟩ := hs
  have k1 := (hw.get es).kind
  obtain ⟨ha, c', D⟩ := deriveT_spec (c := 0) (nc := ns) hl hT es (by omega) (fun h => absurd rfl h) (fun h => absurd rfl h)
  exact ⟨⟨c', ⟨ha, D.node, D.text⟩, D.ctx0 rfl⟩, D.sub⟩
theorem deriveT_ext (T : List Nd) (s : Int) (l : ByteArray) (c : Int) : Ext 3 T (deriveT T s l c).1 := by
  unfold deriveT
  have h1 : Ext 1 T (ctxT T c).1 := by
    unfold ctxT
    split
    · exact textT_ext _ _
    · exact (Ext.refl _).mono (by omega)
  exact (h1.trans (textT_ext _ _)).trans (makeT_ext _ _ _)
theorem derive_out {T : List Nd} {s c : Int} {l : ByteArray} (h : ¬ In T s) (hs : ¬ (T.length < s ∧ s ≤ T.length + 2)) : (deriveT T s l c).2 = 0 := by
  unfold deriveT
  have h1 : Ext 1 T (ctxT T c).1 := by
    unfold ctxT
    split
    · exact textT_ext _ _
    · exact (Ext.refl _).mono (by omega)
  have h2 := h1.trans (textT_ext (ctxT T c).1 l)
  have hn : ¬ In (textT (ctxT T c).1 l).1 s := fun k => by
    have := k.range
    have := h2.len
    have : ¬ (1 ≤ s ∧ s ≤ T.length) := fun q => h (by
      obtain ⟨m, hm⟩ := getT_some q.1 q.2
      exact ⟨m, hm⟩)
    omega
  rw [make_out (x := s) (by simp) hn]

/-! ### Transcripts -/
def beginT (T : List Nd) : List Nd × Int := textT T ByteArray.empty
def nextT (T : List Nd) (tr : Int) (m : ByteArray) : List Nd × Int :=
  makeT (makeT (textT T m).1 3 [tr, (textT T m).2]).1 4 [(makeT (textT T m).1 3 [tr, (textT T m).2]).2]
def NextAt (T : List Nd) (x tr : Int) (m : ByteArray) : Prop := ∃ row tx, getT T x = some ⟨4, ByteArray.empty, [row]⟩ ∧ getT T row = some ⟨3, ByteArray.empty, [tr, tx]⟩ ∧ getT T tx = some (nT m)
theorem NextAt.ext {n : Nat} {T T' : List Nd} {x tr : Int} {m : ByteArray} (h : NextAt T x tr m) (e : Ext n T T') : NextAt T' x tr m := by
  obtain ⟨row, tx, h1, h2, h3⟩ := h
  exact ⟨row, tx, e.get h1, e.get h2, e.get h3⟩
theorem NextAt.inj {T : List Nd} {x tr tr' : Int} {m m' : ByteArray} (h : NextAt T x tr m) (k : NextAt T x tr' m') : tr = tr' ∧ m = m' := by
  obtain ⟨row, tx, h1, h2, h3⟩ := h
  obtain ⟨row', tx', k1, k2, k3⟩ := k
  have e1 := getT_fun h1 k1
  simp only [Nd.mk.injEq, List.cons.injEq, and_true, true_and] at e1
  subst e1
  have e2 := getT_fun h2 k2
  simp only [Nd.mk.injEq, List.cons.injEq, and_true, true_and] at e2
  obtain ⟨rfl, rfl⟩ := e2
  exact ⟨rfl, nT_inj (getT_fun h3 k3)⟩
theorem NextAt.uniq {T : List Nd} (hw : WfT T) {x y tr : Int} {m : ByteArray} (h : NextAt T x tr m) (k : NextAt T y tr m) : x = y := by
  obtain ⟨row, tx, h1, h2, h3⟩ := h
  obtain ⟨row', tx', k1, k2, k3⟩ := k
  obtain rfl := text_uniq hw h3 k3
  obtain rfl := getT_uniq hw h2 k2 (by simp)
  exact getT_uniq hw h1 k1 (by simp)
/-- Transcript x is that behind these messages, the last one first. -/
def TrAt (T : List Nd) : Int → List ByteArray → Prop
  | x, [] => getT T x = some (nT ByteArray.empty)
  | x, m :: ms => ∃ y, TrAt T y ms ∧ NextAt T x y m
theorem TrAt.ext {n : Nat} {T T' : List Nd} (e : Ext n T T') : ∀ {ms : List ByteArray} {x : Int}, TrAt T x ms → TrAt T' x ms
  | [], _, h => e.get h
  | _ :: _, _, ⟨y, h1, h2⟩ => ⟨y, TrAt.ext e h1, h2.ext e⟩
theorem TrAt.in_ {T : List Nd} : ∀ {ms : List ByteArray} {x : Int}, TrAt T x ms → In T x
  | [], _, h => ⟨_, h⟩
  | _ :: _, _, ⟨_, _, ⟨_, _, h, _⟩⟩ => ⟨_, h⟩
theorem TrAt.inj {T : List Nd} : ∀ {ms ms' : List ByteArray} {x : Int}, TrAt T x ms → TrAt T x ms' → ms = ms'
  | [], [], _, _, _ => rfl
  | [], _ :: _, _, h, ⟨_, _, ⟨_, _, k, _⟩⟩ => by have := getT_fun h k; simp [nT] at this
  | _ :: _, [], _, ⟨_, _, ⟨_, _, k, _⟩⟩, h => by have := getT_fun h k; simp [nT] at this
  | m :: ms, m' :: ms', x, ⟨y, h1, h2⟩, ⟨y', k1, k2⟩ => by
    obtain ⟨rfl, rfl⟩ := h2.inj k2
    rw [TrAt.inj h1 k1]
theorem TrAt.uniq {T : List Nd} (hw : WfT T) : ∀ {ms : List ByteArray} {x y : Int}, TrAt T x ms → TrAt T y ms → x = y
  | [], _, _, h, k => text_uniq hw h k
  | _ :: _, _, _, ⟨y, h1, h2⟩, ⟨y', k1, k2⟩ => by
    obtain rfl := TrAt.uniq hw h1 k1
    exact h2.uniq hw k2
theorem nextT_ext (T : List Nd) (tr : Int) (m : ByteArray) : Ext 3 T (nextT T tr m).1 := ((textT_ext _ _).trans (makeT_ext _ _ _)).trans (makeT_ext _ _ _)
theorem wf_text {T : List Nd} (hw : WfT T) (b : ByteArray) : WfT (textT T b).1 := by
  unfold textT
  split
  · exact wfT_add hw (good_text T (by assumption))
  · exact hw
theorem wf_make {T : List Nd} (hw : WfT T) (k : Int) (p : List Int) : WfT (makeT T k p).1 := by
  by_cases c1 : (0 : Int) ∈ p.map (kindT T)
  · rw [make_no1 c1]; exact hw
  by_cases c2 : formedT k (p.map (kindT T)) = false
  · rw [make_no2 c2]; exact hw
  have c2 : formedT k (p.map (kindT T)) = true := by simpa using c2
  rw [make_yes c1 c2]
  exact wfT_add hw (good_make hw c1 c2)
theorem wf_secret {T : List Nd} (hw : WfT T) : WfT (secretT T).1 := wfT_add hw (good_secret T)
theorem next_spec {T : List Nd} {tr : Int} {m : ByteArray} (hw : WfT T) (hm : m.size ≤ 2048) (hT : T.length < 60000) (h : In T tr) : NextAt (nextT T tr m).1 (nextT T tr m).2 tr m := by
  have e1 := textT_ext T m
  have h1 := text_get (T := T) hm (by omega)
  have w1 := wf_text hw m
  have l1 := e1.len
  have h2 := make_row w1 (by omega) (p := [tr, (textT T m).2]) (by simp; exact ⟨h.ext e1, .of h1⟩) (by simp)
  have e2 := makeT_ext (textT T m).1 3 [tr, (textT T m).2]
  have w2 := wf_make w1 3 [tr, (textT T m).2]
  have l2 := e2.len
  have h3 := make_hash w2 (by omega) (.of h2)
  have e3 := makeT_ext (makeT (textT T m).1 3 [tr, (textT T m).2]).1 4 [(makeT (textT T m).1 3 [tr, (textT T m).2]).2]
  exact ⟨_, _, h3, e3.get h2, (e2.trans e3).get h1⟩
theorem nextT_wf {T : List Nd} (hw : WfT T) (tr : Int) (m : ByteArray) : WfT (nextT T tr m).1 := wf_make (wf_make (wf_text hw m) _ _) _ _
theorem begin_spec {T : List Nd} (hT : T.length < 60000) : TrAt (beginT T).1 (beginT T).2 [] := text_get (by decide) (by omega)
end Go.Proofs.Ytomopjpfdmpgpaa
