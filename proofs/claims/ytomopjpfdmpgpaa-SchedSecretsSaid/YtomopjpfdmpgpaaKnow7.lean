/- What the loops of know.look keep (layer 3). No condition. -/
import Derived.Test.YtomopjpfdmpgpaaKnow6
set_option linter.unusedVariables false
set_option linter.unusedSimpArgs false
namespace Go.Proofs.Ytomopjpfdmpgpaa
open Go Go.RowKit

theorem exists_min (p : Nat → Prop) (h : ∃ n, p n) : ∃ n, p n ∧ ∀ m, p m → n ≤ m := by
  obtain ⟨n, hn⟩ := h
  induction n using Nat.strongRecOn with
  | _ n ih =>
    by_cases q : ∃ m, m < n ∧ p m
    · obtain ⟨m, hm, hp⟩ := q
      exact ih m hm hp
    · exact ⟨n, hn, fun m hm => Nat.not_lt.1 fun hl => q ⟨m, hl, hm⟩⟩
/-- A loop whose state the activation and the world do not tell. -/
theorem wpIn_loopG {F : Fence} {n : Nat} {P : Program} {c : Code} {Q : Exit → Act → World → Prop} {a : Act} {w : World} {α : Type} (I : α → Act → World → Prop) (μ : α → Nat) (x0 : α) (h0 : I x0 a w)
    (round : ∀ x a w, I x a w → c.wpIn F n P (Exit.then (fun a' w' => ∃ x', I x' a' w' ∧ μ x' < μ x) Q) a w) : (Code.loop c).wpIn F n P Q a w := by
  classical
  let p : Act → World → Nat → Prop := fun a w m => ∃ x, I x a w ∧ μ x = m
  let ν : Act → World → Nat := fun a w => if h : ∃ m, p a w m then Classical.choose (exists_min (p a w) h) else 0
  have hν : ∀ x a w, I x a w → ν a w ≤ μ x ∧ ∃ y, I y a w ∧ μ y = ν a w := by
    intro x a w h
    have hx : ∃ m, p a w m := ⟨_, x, h, rfl⟩
    have hs := Classical.choose_spec (exists_min (p a w) hx)
    have e : ν a w = Classical.choose (exists_min (p a w) hx) := dif_pos hx
    rw [e]
    exact ⟨hs.2 _ ⟨x, h, rfl⟩, hs.1⟩
  refine wpIn_loop (fun a w => ∃ x, I x a w) ν ⟨x0, h0⟩ fun a w ⟨x, hx⟩ => ?_
  obtain ⟨-, y, hy, e⟩ := hν x a w hx
  refine wpIn_mono (round y a w hy) ?_
  intro ex a' w' hq
  cases ex with
  | normal => obtain ⟨x', h1, h2⟩ := hq; exact ⟨⟨x', h1⟩, by have := (hν x' a' w' h1).1; omega⟩
  | _ => exact hq

theorem lpO_mndF : ∀ o, lpO o = true → mndO o = false := by
  intro o h
  unfold lpO at h
  split at h <;> first | rfl | cases h
/-- A step that turns a row of bools and a local bool. -/
theorem setFrm {B D : Nat} {u : Value} {F : List Bool} {ch : Bool} {W W' : World} (ho : OwnB W B u F) (hc : BoolAt W D ch) (hB : B ≤ D) (hf : MFrm (fun k => u.ownBlock = some k ∨ k = D) W W') : Frm mndO B W W' :=
  ⟨hf.os, hf.tape, hf.output, hf.size, fun k o hk hq => by
    refine (hf.block k (lt_of_get hk) fun q => ?_).trans hk
    have hb : B ≤ k := by rcases q with e | rfl; exact (ho.lt k e).1; exact hB
    rcases hq with hq | hq
    · omega
    · rcases q with e | rfl
      · obtain ⟨cur, hg⟩ := ho.type k e; rw [hk] at hg; cases hg; cases hq
      · unfold BoolAt at hc; rw [hk] at hc; cases hc; cases hq⟩
/-- A loop's own records stand. -/
def KeepLp (W W' : World) : Prop := ∀ (k : Nat) (o : Obj), W.heap[k]? = some o → lpO o = true → W'.heap[k]? = some o
theorem KeepLp.refl (W : World) : KeepLp W W := fun _ _ h _ => h
theorem KeepLp.trans {a b c : World} (h : KeepLp a b) (k : KeepLp b c) : KeepLp a c := fun i o hi hl => k i o (h i o hi hl) hl
theorem KeepLp.of_below {a b : World} (h : Below a.heap.size a b) : KeepLp a b := fun i o hi _ => (h.block i (lt_of_get hi)).trans hi
theorem KeepLp.of_mnd {B : Nat} {a b : World} (h : Frm mndO B a b) : KeepLp a b := fun i o hi hl => h.block i o hi (.inr (lpO_mndF o hl))

structure LookI (B : Nat) (w : World) (mb : Nat) (tp : Option Addr) (v1 v2 u1 u2 : Value) (T : List Nd) (D : Nat) (F C : List Bool) (ch : Bool) (W : World) : Prop where
  m : MStep B w mb tp v1 v2 u1 u2 F C T.length true W
  t : TabAt B W tp T
  x : W.heap[w.heap.size]? = some (.cells #[.pointer (some ⟨mb, 0, none⟩)] 93 (0, 0))
  c : BoolAt W D ch
  s : W.heap[D + 1]? = some (.cells #[.func (.func 86) #[] #[.pointer (some ⟨D, 0, none⟩)]] 136 (0, 0))
  ne : ∀ k, mS mb u1 u2 k → k ≠ w.heap.size ∧ k < D
  wD : w.heap.size < D
  sz : D + 1 < W.heap.size
  bw : B ≤ w.heap.size
theorem LookI.lp {B : Nat} {w : World} {mb : Nat} {tp : Option Addr} {v1 v2 u1 u2 : Value} {T : List Nd} {D : Nat} {F C : List Bool} {ch : Bool} {W W' : World} (h : LookI B w mb tp v1 v2 u1 u2 T D F C ch W) {D' : Nat} (hD : D + 2 ≤ D') (hf : Frm lpO D' W W') : LookI B w mb tp v1 v2 u1 u2 T D F C ch W' := by
  have h1 := h.wD
  have h2 := h.bw
  have h3 := h.sz
  have hb : Below w.heap.size W W' := (hf.weak (by omega)).below (by omega)
  exact ⟨⟨h.m.at_.frm hf lpO_mnd, ⟨hf.os.trans h.m.fr.os, hf.tape.trans h.m.fr.tape, hf.output.trans h.m.fr.output, Nat.le_trans h.m.fr.size hf.size, fun k hk hn => (hb.block k hk).trans (h.m.fr.block k hk hn)⟩, h.m.o1, h.m.o2⟩,
    h.t.lp hf (by omega), cells_lp h.x hf, cells_lp h.c hf, cells_lp h.s hf, h.ne, h.wD, Nat.lt_of_lt_of_le h.sz hf.size, h.bw⟩
theorem LookI.below {B : Nat} {w : World} {mb : Nat} {tp : Option Addr} {v1 v2 u1 u2 : Value} {T : List Nd} {D : Nat} {F C : List Bool} {ch : Bool} {W W' : World} (h : LookI B w mb tp v1 v2 u1 u2 T D F C ch W) (hb : Below W.heap.size W W') : LookI B w mb tp v1 v2 u1 u2 T D F C ch W' := h.lp (D' := W.heap.size) (by have := h.sz; omega) (.of_below hb)
theorem LookI.setF {B : Nat} {w : World} {mb : Nat} {tp : Option Addr} {v1 v2 u1 u2 : Value} {T : List Nd} {D : Nat} {F C F' : List Bool} {ch ch' : Bool} {W W' : World} (h : LookI B w mb tp v1 v2 u1 u2 T D F C ch W)
    (ho : OwnB W' B u1 F') (hc : BoolAt W' D ch') (hf : MFrm (fun k => u1.ownBlock = some k ∨ k = D) W W') : LookI B w mb tp v1 v2 u1 u2 T D F' C ch' W' := by
  have h1 := h.wD
  have h2 := h.bw
  have h3 := h.sz
  have hmb := h.ne mb (.inl rfl)
  have hm := h.m.at_
  have key : ∀ k o, W.heap[k]? = some o → u1.ownBlock ≠ some k → k ≠ D → W'.heap[k]? = some o := fun k o hk n1 n2 => (hf.block k (lt_of_get hk) fun q => q.elim n1 n2).trans hk
  refine ⟨⟨⟨key _ _ hm.blk (fun e => hm.ne.1 _ e rfl) (by omega), ho, hm.c.same fun g e => hf.block g (hm.c.lt g e).2 fun q => q.elim (fun q => hm.apart g q e) (fun q => by have := (h.ne g (.inr (.inr e))).2; omega), hm.apart, hm.base⟩, ?_, h.m.o1, h.m.o2⟩,
    h.t.mnd (setFrm hm.f h.c (by omega) hf), key _ _ h.x (fun e => (h.ne _ (.inr (.inl e))).1 rfl) (by omega), hc, key _ _ h.s (fun e => by have := (h.ne _ (.inr (.inl e))).2; omega) (by omega), h.ne, h.wD, Nat.lt_of_lt_of_le h.sz hf.size, h.bw⟩
  refine h.m.fr.trans hf fun i q => ?_
  rcases q with e | rfl
  · exact (h.m.o1 i e).imp (fun q => .inr (.inl q)) id
  · exact .inr (by omega)
theorem LookI.setC {B : Nat} {w : World} {mb : Nat} {tp : Option Addr} {v1 v2 u1 u2 : Value} {T : List Nd} {D : Nat} {F C C' : List Bool} {ch ch' : Bool} {W W' : World} (h : LookI B w mb tp v1 v2 u1 u2 T D F C ch W)
    (ho : OwnB W' B u2 C') (hc : BoolAt W' D ch') (hf : MFrm (fun k => u2.ownBlock = some k ∨ k = D) W W') : LookI B w mb tp v1 v2 u1 u2 T D F C' ch' W' := by
  have h1 := h.wD
  have h2 := h.bw
  have h3 := h.sz
  have hmb := h.ne mb (.inl rfl)
  have hm := h.m.at_
  have key : ∀ k o, W.heap[k]? = some o → u2.ownBlock ≠ some k → k ≠ D → W'.heap[k]? = some o := fun k o hk n1 n2 => (hf.block k (lt_of_get hk) fun q => q.elim n1 n2).trans hk
  refine ⟨⟨⟨key _ _ hm.blk (fun e => hm.ne.2 _ e rfl) (by omega), hm.f.same fun g e => hf.block g (hm.f.lt g e).2 fun q => q.elim (fun q => hm.apart g e q) (fun q => by have := (h.ne g (.inr (.inl e))).2; omega), ho, hm.apart, hm.base⟩, ?_, h.m.o1, h.m.o2⟩,
    h.t.mnd (setFrm hm.c h.c (by omega) hf), key _ _ h.x (fun e => (h.ne _ (.inr (.inr e))).1 rfl) (by omega), hc, key _ _ h.s (fun e => by have := (h.ne _ (.inr (.inr e))).2; omega) (by omega), h.ne, h.wD, Nat.lt_of_lt_of_le h.sz hf.size, h.bw⟩
  refine h.m.fr.trans hf fun i q => ?_
  rcases q with e | rfl
  · exact (h.m.o2 i e).imp (fun q => .inr (.inr q)) id
  · exact .inr (by omega)
theorem LookI.setCh {B : Nat} {w : World} {mb : Nat} {tp : Option Addr} {v1 v2 u1 u2 : Value} {T : List Nd} {D : Nat} {F C : List Bool} {ch : Bool} {W : World} (h : LookI B w mb tp v1 v2 u1 u2 T D F C ch W) (b : Bool) : LookI B w mb tp v1 v2 u1 u2 T D F C b (W.setCell ⟨D, 0, none⟩ (.bool b)) := by
  refine h.setF (h.m.at_.f.same fun g e => mblk_other _ _ (by have := (h.ne g (.inr (.inl e))).2; omega)) ?_ (.set _ _ _ (.inr rfl))
  have := mblk_set (i := 0) h.c (.bool b)
  simpa [BoolAt] using this

theorem setF_eq (s : KS) (p : Int) : setF s p = ⟨setL s.F p, s.C, s.ch || !bget s.F p⟩ := by
  unfold setF setL
  cases bget s.F p <;> simp
theorem setC_eq (s : KS) (p : Int) : setC s p = ⟨s.F, setL s.C p, s.ch || !bget s.C p⟩ := by
  unfold setC setL
  cases bget s.C p <;> simp

/-- What a pass keeps. -/
structure LookR (B : Nat) (w : World) (mb : Nat) (tp : Option Addr) (v1 v2 u1 u2 : Value) (T : List Nd) (D gp b2 : Nat) (vp : Value) (pub : List Bool) (s : KS) (W : World) : Prop where
  l : LookI B w mb tp v1 v2 u1 u2 T D s.F s.C s.ch W
  p : W.heap[gp]? = some (.cells #[vp] 117 (0, 0))
  r : OwnB W (D + 2) vp pub
  y : W.heap[b2]? = some (.cells #[.pointer (some ⟨mb, 0, none⟩)] 93 (0, 0))
  gD : D + 2 ≤ gp
  bD : D + 2 ≤ b2
theorem LookR.lp {B : Nat} {w : World} {mb : Nat} {tp : Option Addr} {v1 v2 u1 u2 : Value} {T : List Nd} {D gp b2 : Nat} {vp : Value} {pub : List Bool} {s : KS} {W W' : World} (h : LookR B w mb tp v1 v2 u1 u2 T D gp b2 vp pub s W) {D' : Nat} (hD : D + 2 ≤ D') (hf : Frm lpO D' W W') : LookR B w mb tp v1 v2 u1 u2 T D gp b2 vp pub s W' :=
  ⟨h.l.lp hD hf, cells_lp h.p hf, h.r.lp hf, cells_lp h.y hf, h.gD, h.bD⟩
theorem LookR.below {B : Nat} {w : World} {mb : Nat} {tp : Option Addr} {v1 v2 u1 u2 : Value} {T : List Nd} {D gp b2 : Nat} {vp : Value} {pub : List Bool} {s : KS} {W W' : World} (h : LookR B w mb tp v1 v2 u1 u2 T D gp b2 vp pub s W) (hb : Below W.heap.size W W') : LookR B w mb tp v1 v2 u1 u2 T D gp b2 vp pub s W' := h.lp (D' := W.heap.size) (by have := h.l.sz; omega) (.of_below hb)
theorem LookR.setF {B : Nat} {w : World} {mb : Nat} {tp : Option Addr} {v1 v2 u1 u2 : Value} {T : List Nd} {D gp b2 : Nat} {vp : Value} {pub : List Bool} {s : KS} {W W' : World} (h : LookR B w mb tp v1 v2 u1 u2 T D gp b2 vp pub s W) {p : Int}
    (ho : OwnB W' B u1 (setL s.F p)) (hc : BoolAt W' D (s.ch || !bget s.F p)) (hf : MFrm (fun k => u1.ownBlock = some k ∨ k = D) W W') : LookR B w mb tp v1 v2 u1 u2 T D gp b2 vp pub (Go.Proofs.Ytomopjpfdmpgpaa.setF s p) W' := by
  have key : ∀ k, D + 2 ≤ k → k < W.heap.size → W'.heap[k]? = W.heap[k]? := fun k hk hs => hf.block k hs fun q => q.elim (fun e => by have := (h.l.ne k (.inr (.inl e))).2; omega) (by omega)
  rw [setF_eq]
  exact ⟨h.l.setF ho hc hf, (key _ h.gD (lt_of_get h.p)).trans h.p, h.r.same fun g e => key g (h.r.lt g e).1 (h.r.lt g e).2, (key _ h.bD (lt_of_get h.y)).trans h.y, h.gD, h.bD⟩
theorem LookR.setC {B : Nat} {w : World} {mb : Nat} {tp : Option Addr} {v1 v2 u1 u2 : Value} {T : List Nd} {D gp b2 : Nat} {vp : Value} {pub : List Bool} {s : KS} {W W' : World} (h : LookR B w mb tp v1 v2 u1 u2 T D gp b2 vp pub s W) {p : Int}
    (ho : OwnB W' B u2 (setL s.C p)) (hc : BoolAt W' D (s.ch || !bget s.C p)) (hf : MFrm (fun k => u2.ownBlock = some k ∨ k = D) W W') : LookR B w mb tp v1 v2 u1 u2 T D gp b2 vp pub (Go.Proofs.Ytomopjpfdmpgpaa.setC s p) W' := by
  have key : ∀ k, D + 2 ≤ k → k < W.heap.size → W'.heap[k]? = W.heap[k]? := fun k hk hs => hf.block k hs fun q => q.elim (fun e => by have := (h.l.ne k (.inr (.inr e))).2; omega) (by omega)
  rw [setC_eq]
  exact ⟨h.l.setC ho hc hf, (key _ h.gD (lt_of_get h.p)).trans h.p, h.r.same fun g e => key g (h.r.lt g e).1 (h.r.lt g e).2, (key _ h.bD (lt_of_get h.y)).trans h.y, h.gD, h.bD⟩
theorem LookR.frmF {B : Nat} {w : World} {mb : Nat} {tp : Option Addr} {v1 v2 u1 u2 : Value} {T : List Nd} {D gp b2 : Nat} {vp : Value} {pub : List Bool} {s : KS} {W W' : World} (h : LookR B w mb tp v1 v2 u1 u2 T D gp b2 vp pub s W) (hf : MFrm (fun k => u1.ownBlock = some k ∨ k = D) W W') : Frm mndO B W W' := setFrm h.l.m.at_.f h.l.c (by have := h.l.bw; have := h.l.wD; omega) hf
theorem LookR.frmC {B : Nat} {w : World} {mb : Nat} {tp : Option Addr} {v1 v2 u1 u2 : Value} {T : List Nd} {D gp b2 : Nat} {vp : Value} {pub : List Bool} {s : KS} {W W' : World} (h : LookR B w mb tp v1 v2 u1 u2 T D gp b2 vp pub s W) (hf : MFrm (fun k => u2.ownBlock = some k ∨ k = D) W W') : Frm mndO B W W' := setFrm h.l.m.at_.c h.l.c (by have := h.l.bw; have := h.l.wD; omega) hf
theorem NodeAt.mnd {B : Nat} {W W' : World} {g : Nat} {nd : Nd} {A : Option Addr} {c : Nat} (h : NodeAt W g nd A c) (hf : Frm mndO B W W') : NodeAt W' g nd A c :=
  ⟨hf.block _ _ h.1 (.inr rfl), h.2.frm ((hf.weak (Nat.zero_le _)).mono mndO_sp)⟩
theorem NodeAt.below {W W' : World} {g : Nat} {nd : Nd} {A : Option Addr} {c : Nat} (h : NodeAt W g nd A c) (hb : Below W.heap.size W W') : NodeAt W' g nd A c :=
  ⟨(hb.block _ (lt_of_get h.1)).trans h.1, h.2.below hb⟩
theorem Rds.mnd0 {B : Nat} {W W' : World} {A : Option Addr} {n c : Nat} {xs : List Int} (h : Rds 0 W .i64 A n c xs) (hf : Frm mndO B W W') : Rds 0 W' .i64 A n c xs := h.frm ((hf.weak (Nat.zero_le _)).mono mndO_sp)

/-- The marks that a loop's rounds leave on the activation's deferred calls, taken one by one. -/
theorem leaves_marks {F : Fence} {n : Nat} {P : Program} {fn : Func} {tmps : Array Value} {R : Ending → World → Prop} (lo : Nat) (J : World → Prop) (hJ : ∀ W r, J W → lo ≤ r → W.heap[r]? = some (.deferred (some [])) → J (W.putObj r (.deferred none)))
    (hend : ∀ W, J W → LeavesIn F n P fn tmps R [] .returning W) : ∀ (rs : List Nat) (W : World), rs.Nodup → (∀ r ∈ rs, lo ≤ r ∧ W.heap[r]? = some (.deferred (some []))) → J W → LeavesInM F n P fn tmps R (rs.map fun r => { target := .collected r, args := #[] }) .returning W
  | [], W, _, _, h => hend W h
  | r :: rs, W, hn, hr, h => by
    have h0 := hr r (List.mem_cons_self ..)
    rw [List.nodup_cons] at hn
    refine ⟨by simp, .inl ⟨_, _, rfl, run_takeDeferred h0.2, ?_⟩⟩
    exact leaves_marks lo J hJ hend rs _ hn.2 (fun q hq => ⟨(hr q (List.mem_cons_of_mem _ hq)).1, (World.putObj_heap_other (fun e => hn.1 (by rw [← e]; exact hq))).trans (hr q (List.mem_cons_of_mem _ hq)).2⟩) (hJ W r h h0.1 h0.2)
end Go.Proofs.Ytomopjpfdmpgpaa
