/- Own texts, one behind the other. Each bears its own remark. -/
import Derived.RangeFuncNested
import Derived.RangeFuncBound
import Derived.RangeFuncCalls
import Derived.RangeFuncLeaves
import Derived.Shelf.Abstract
import Derived.Shelf.RegionOpen
import Derived.OwnWalkIn
import Derived.TacticsInMore
import Derived.LoopNIn
import Derived.LoopIn
import Derived.Test.YtbfgoojpbhlboaaDoorLib
/- A range over a function whose body goes on each time: the caller's law; what the iterator tells of each item stands in memory. No condition. -/
set_option linter.unusedVariables false
namespace Go.Proofs.YtbfgoojpbhlboaaDoor
open Go Go.RowKit

/-- What a loop over a function lays beside the program's own memory. -/
def lpO : Obj → Bool
  | .loop _ => true
  | .deferred _ => true
  | _ => false
theorem frm_putLoop {w : World} {B l : Nat} {o : Obj} (o' : Obj) (h : w.heap[l]? = some o) (ho : lpO o = true) (hB : B ≤ l) : Frm lpO B w (w.putObj l o') :=
  ⟨rfl, rfl, rfl, by simp [World.putObj], fun k p hk hc => by
    by_cases e : k = l
    · subst e
      rw [h] at hk
      cases hk
      rcases hc with hc | hc
      · omega
      · rw [ho] at hc; cases hc
    · exact (World.putObj_heap_other e).trans hk⟩
theorem frm_alloc {C : Obj → Bool} {B : Nat} (w : World) (o : Obj) : Frm C B w (w.alloc o) := .of_below (below_new o)

/-- What an iterator promises: N rounds, one behind the other, each with an item of which Gd speaks. -/
def Gives {α : Type} (P : Program) (gf : Nat) (lb : Array Value) (encs : α → Array Value) (Gd : Nat → α → World → Prop) (R : World → Prop) (N m : Nat) : Prop :=
  ∀ (l : Nat) (J : Nat → World → Prop) (W : World), (∀ k W W', J k W → Below W.heap.size W W' → J k W') → (∀ k W, J k W → R W) →
    (∀ k x W, J k W → k < N → Gd k x W → YieldAt Fence.wide m P l (encs x) W fun e W' => e = .returned (.bool true) ∧ J (k + 1) W') → J 0 W →
    CallsIn Fence.wide (m + 1) P gf (#[.func (.yield l) #[] #[]] ++ lb) W fun e W' => (∃ v, e = .returned v) ∧ J N W'

/-- The body of a round is left by its end alone. -/
def roundEnd (R : World → World → Prop) (W : World) : Exit → Act → World → Prop
  | .normal, _, W' => R W W'
  | _, _, _ => False

theorem range_gives {P : Program} {α : Type} {g : Operand} {ps : Array Tmp} {assign body : Code} {Q : Exit → Act → World → Prop} {a : Act} {w : World} {m : Nat}
    {gf : Nat} {lb : Array Value} (hg : a.eval g = .func (.func gf) #[] lb) (eg : ∀ args w, (callFunc gf args).run P w = .ok (.enter gf args) w)
    {encs : α → Array Value} {Gd : Nat → α → World → Prop} {R : World → Prop} {N : Nat} (hseq : Gives P gf lb encs Gd R N m) (hps : ∀ x, (encs x).size = ps.size)
    (I : Nat → World → Prop) (Ax : Nat → α → Act → World → Prop)
    (hI : ∀ k W W', I k W → Frm lpO w.heap.size W W' → I k W') (hAx : ∀ k x a W W', Ax k x a W → Frm lpO w.heap.size W W' → Ax k x a W') (hR : ∀ k W, I k W → R W) (h0 : I 0 w)
    (hassign : ∀ (l k : Nat) (x : α) (W : World) (K : Act → World → Prop), I k W → k < N → Gd k x W → (∀ a₁ W₁, Below W.heap.size W W₁ → Ax k x a₁ W₁ → K a₁ W₁) →
      assign.wpIn (Fence.wide.inRound l) m P (Exit.then K (fun _ _ _ => False)) { tmps := (ps.zip (encs x)).foldl (fun t (p, v) => t.setIfInBounds p v) a.tmps, defers := [] } W)
    (hbody : ∀ (l k : Nat) (x : α) (a₁ : Act) (W : World), k < N → I k W → Ax k x a₁ W →
      body.wpIn (Fence.wide.inRound l) m P (roundEnd (fun W W' => (∀ (k : Nat) (o : Obj), W.heap[k]? = some o → lpO o = true → W'.heap[k]? = some o) ∧ I (k + 1) W') W) a₁ W)
    (hdone : ∀ W, I N W → W.heap[w.heap.size]? = some (.deferred (some [])) → Q .normal { a with defers := { target := .collected w.heap.size, args := #[] } :: a.defers } W) :
    (Code.rangeFunc g ps assign body).wpIn Fence.wide (m + 2) P Q a w := by
  refine wpIn_rangeFunc ?_
  intro fn hfn
  obtain ⟨rec, hrec⟩ : ∃ rec : LoopState → Option Code → Loop, rec = fun st pe => { state := st, pending := pe, fn, tmps := a.tmps, params := ps, assign, body, defers := w.heap.size } := ⟨_, rfl⟩
  obtain ⟨W1, hW1⟩ : ∃ W1, (w.alloc (.deferred (some []))).alloc (.loop (rec .ready none)) = W1 := ⟨_, rfl⟩
  have hL1 : W1.heap[w.heap.size + 1]? = some (.loop (rec .ready none)) := by
    have := heap_alloc_new (w.alloc (.deferred (some []))) (.loop (rec .ready none))
    rw [← hW1]
    rwa [World.size_alloc] at this
  have hK1 : W1.heap[w.heap.size]? = some (.deferred (some [])) := by
    rw [← hW1]
    exact (Below.heap_alloc _ _ _ (by simp)).trans (heap_alloc_new w _)
  have hF1 : Frm lpO w.heap.size w W1 := by rw [← hW1]; exact (frm_alloc w _).trans (frm_alloc _ _)
  refine ⟨w.heap.size + 1, [{ target := .collected w.heap.size, args := #[] }], W1, { target := .fn (.func gf) lb, args := #[.func (.yield (w.heap.size + 1)) #[] #[]] }, W1, gf,
    #[.func (.yield (w.heap.size + 1)) #[] #[]] ++ lb, W1, ?_, ?_, fun _ _ => trivial, ?_, fun _ => by omega, ?_⟩
  · rw [← hW1, hrec]
    exact run_enterLoop_outer _ _ _ _ _
  · simp only [resolve, hg]
    simp [go_sem]
  · simp [invoke, go_sem, eg]
  refine (hseq (w.heap.size + 1) (fun k W => I k W ∧ W.heap[w.heap.size + 1]? = some (.loop (rec .ready none)) ∧ W.heap[w.heap.size]? = some (.deferred (some []))) W1
    (fun k W W' h hb => ⟨hI k W W' h.1 (.of_below hb), (hb.block _ (lt_of_get h.2.1)).trans h.2.1, (hb.block _ (lt_of_get h.2.2)).trans h.2.2⟩) (fun k W h => hR k W h.1) ?_ ⟨hI 0 _ _ h0 hF1, hL1, hK1⟩).mono ?_
  · rintro k x W ⟨hi, hl, hk⟩ hN hGd
    have hlt := lt_of_get hl
    have hy := run_yield (P := P) (args := encs x) hl (by rw [hrec]; exact hps x)
    rw [hrec] at hy
    refine ⟨fn, _, assign, body, hy, roundIn_of_wpIn hfn (hassign _ k x W _ hi hN hGd fun a₁ W₁ hb hax => ?_)⟩
    have hl1 := (hb.block _ hlt).trans hl
    have hk1 := (hb.block _ (lt_of_get hk)).trans hk
    refine ⟨_, run_beginRound hl1 (by rw [hrec]), ?_⟩
    obtain ⟨W2, hW2⟩ : ∃ W2, W2 = W₁.putObj (w.heap.size + 1) (.loop { rec .ready none with state := .busy }) := ⟨_, rfl⟩
    have hf2 : Frm lpO w.heap.size W₁ W2 := by rw [hW2]; exact frm_putLoop _ hl1 rfl (by omega)
    have hl2 : W2.heap[w.heap.size + 1]? = some (.loop { rec .ready none with state := .busy }) := by rw [hW2]; exact World.putObj_heap_same (lt_of_get hl1)
    have hk2 : W2.heap[w.heap.size]? = some (.deferred (some [])) := by rw [hW2]; exact (World.putObj_heap_other (by omega)).trans hk1
    rw [← hW2]
    refine wpIn_mono (hbody _ k x a₁ W2 hN (hI _ _ _ hi ((Frm.of_below hb).trans hf2)) (hAx _ _ _ _ _ hax hf2)) ?_
    rintro e a3 W3 hp
    cases e with
    | normal =>
      obtain ⟨hk3, hi3⟩ := hp
      have hl3 := hk3 _ _ hl2 rfl
      have hkk := hk3 _ _ hk2 rfl
      have hr := run_endRound (P := P) none hl3
      rw [hrec] at hr
      refine ⟨_, _, hr, rfl, hI _ _ _ hi3 (frm_putLoop _ hl3 rfl (by omega)), ?_, (World.putObj_heap_other (by omega)).trans hkk⟩
      rw [hrec]
      exact World.putObj_heap_same (lt_of_get hl3)
    | _ => exact hp.elim
  · rintro e W2 ⟨⟨v, rfl⟩, hi, hl, hk⟩
    have := run_endLoop (P := P) hl (by rw [hrec]; simp)
    rw [hrec] at this
    exact ⟨none, _, this, hdone _ (hI _ _ _ hi (frm_putLoop _ hl rfl (by omega))) ((World.putObj_heap_other (by omega)).trans hk)⟩
end Go.Proofs.YtbfgoojpbhlboaaDoor

/- A range over a function whose body may return: the caller's law. No condition. -/
set_option linter.unusedVariables false
namespace Go.Proofs.YtbfgoojpbhlboaaDoor
open Go Go.RowKit

/-- What an iterator promises whose caller may stop it: rounds one behind the other, till N or till the caller says no. -/
def GivesR {α : Type} (P : Program) (gf : Nat) (lb : Array Value) (encs : α → Array Value) (Gd : Nat → α → World → Prop) (R : World → Prop) (N m : Nat) : Prop :=
  ∀ (l : Nat) (J : Nat → World → Prop) (Jx : World → Prop) (W : World), (∀ k W W', J k W → Below W.heap.size W W' → J k W') → (∀ W W', Jx W → Below W.heap.size W W' → Jx W') → (∀ k W, J k W → R W) →
    (∀ k x W, J k W → k < N → Gd k x W → YieldAt Fence.wide m P l (encs x) W fun e W' => (e = .returned (.bool true) ∧ J (k + 1) W') ∨ (e = .returned (.bool false) ∧ Jx W')) → J 0 W →
    CallsIn Fence.wide (m + 1) P gf (#[.func (.yield l) #[] #[]] ++ lb) W fun e W' => (∃ v, e = .returned v) ∧ (J N W' ∨ Jx W')

/-- The body of a round is left by its end, or by a return. -/
def roundEndR (R Rx : World → World → Prop) (W : World) : Exit → Act → World → Prop
  | .normal, _, W' => R W W'
  | .ret, _, W' => Rx W W'
  | _, _, _ => False

theorem range_givesR {P : Program} {α : Type} {g : Operand} {ps : Array Tmp} {assign body : Code} {Q : Exit → Act → World → Prop} {a : Act} {w : World} {m : Nat}
    {gf : Nat} {lb : Array Value} (hg : a.eval g = .func (.func gf) #[] lb) (eg : ∀ args w, (callFunc gf args).run P w = .ok (.enter gf args) w)
    {encs : α → Array Value} {Gd : Nat → α → World → Prop} {R : World → Prop} {N : Nat} (hseq : GivesR P gf lb encs Gd R N m) (hps : ∀ x, (encs x).size = ps.size)
    (I : Nat → World → Prop) (Ix : World → Prop) (Ax : Nat → α → Act → World → Prop)
    (hI : ∀ k W W', I k W → Frm lpO w.heap.size W W' → I k W') (hIx : ∀ W W', Ix W → Frm lpO w.heap.size W W' → Ix W') (hAx : ∀ k x a W W', Ax k x a W → Frm lpO w.heap.size W W' → Ax k x a W') (hR : ∀ k W, I k W → R W) (h0 : I 0 w)
    (hassign : ∀ (l k : Nat) (x : α) (W : World) (K : Act → World → Prop), I k W → k < N → Gd k x W → (∀ a₁ W₁, Below W.heap.size W W₁ → Ax k x a₁ W₁ → K a₁ W₁) →
      assign.wpIn (Fence.wide.inRound l) m P (Exit.then K (fun _ _ _ => False)) { tmps := (ps.zip (encs x)).foldl (fun t (p, v) => t.setIfInBounds p v) a.tmps, defers := [] } W)
    (hbody : ∀ (l k : Nat) (x : α) (a₁ : Act) (W : World), k < N → I k W → Ax k x a₁ W →
      body.wpIn (Fence.wide.inRound l) m P (roundEndR (fun W W' => (∀ (k : Nat) (o : Obj), W.heap[k]? = some o → lpO o = true → W'.heap[k]? = some o) ∧ I (k + 1) W') (fun W W' => (∀ (k : Nat) (o : Obj), W.heap[k]? = some o → lpO o = true → W'.heap[k]? = some o) ∧ Ix W') W) a₁ W)
    (hdone : ∀ W, I N W → W.heap[w.heap.size]? = some (.deferred (some [])) → Q .normal { a with defers := { target := .collected w.heap.size, args := #[] } :: a.defers } W)
    (hstop : ∀ W, Ix W → W.heap[w.heap.size]? = some (.deferred (some [])) → Q .ret { a with defers := { target := .collected w.heap.size, args := #[] } :: a.defers } W) :
    (Code.rangeFunc g ps assign body).wpIn Fence.wide (m + 2) P Q a w := by
  refine wpIn_rangeFunc ?_
  intro fn hfn
  obtain ⟨rec, hrec⟩ : ∃ rec : LoopState → Option Code → Loop, rec = fun st pe => { state := st, pending := pe, fn, tmps := a.tmps, params := ps, assign, body, defers := w.heap.size } := ⟨_, rfl⟩
  obtain ⟨W1, hW1⟩ : ∃ W1, (w.alloc (.deferred (some []))).alloc (.loop (rec .ready none)) = W1 := ⟨_, rfl⟩
  have hL1 : W1.heap[w.heap.size + 1]? = some (.loop (rec .ready none)) := by
    have := heap_alloc_new (w.alloc (.deferred (some []))) (.loop (rec .ready none))
    rw [← hW1]
    rwa [World.size_alloc] at this
  have hK1 : W1.heap[w.heap.size]? = some (.deferred (some [])) := by
    rw [← hW1]
    exact (Below.heap_alloc _ _ _ (by simp)).trans (heap_alloc_new w _)
  have hF1 : Frm lpO w.heap.size w W1 := by rw [← hW1]; exact (frm_alloc w _).trans (frm_alloc _ _)
  refine ⟨w.heap.size + 1, [{ target := .collected w.heap.size, args := #[] }], W1, { target := .fn (.func gf) lb, args := #[.func (.yield (w.heap.size + 1)) #[] #[]] }, W1, gf,
    #[.func (.yield (w.heap.size + 1)) #[] #[]] ++ lb, W1, ?_, ?_, fun _ _ => trivial, ?_, fun _ => by omega, ?_⟩
  · rw [← hW1, hrec]
    exact run_enterLoop_outer _ _ _ _ _
  · simp only [resolve, hg]
    simp [go_sem]
  · simp [invoke, go_sem, eg]
  refine (hseq (w.heap.size + 1) (fun k W => I k W ∧ W.heap[w.heap.size + 1]? = some (.loop (rec .ready none)) ∧ W.heap[w.heap.size]? = some (.deferred (some []))) (fun W => Ix W ∧ W.heap[w.heap.size + 1]? = some (.loop (rec .done (some .ret))) ∧ W.heap[w.heap.size]? = some (.deferred (some []))) W1
    (fun k W W' h hb => ⟨hI k W W' h.1 (.of_below hb), (hb.block _ (lt_of_get h.2.1)).trans h.2.1, (hb.block _ (lt_of_get h.2.2)).trans h.2.2⟩)
    (fun W W' h hb => ⟨hIx W W' h.1 (.of_below hb), (hb.block _ (lt_of_get h.2.1)).trans h.2.1, (hb.block _ (lt_of_get h.2.2)).trans h.2.2⟩) (fun k W h => hR k W h.1) ?_ ⟨hI 0 _ _ h0 hF1, hL1, hK1⟩).mono ?_
  · rintro k x W ⟨hi, hl, hk⟩ hN hGd
    have hlt := lt_of_get hl
    have hy := run_yield (P := P) (args := encs x) hl (by rw [hrec]; exact hps x)
    rw [hrec] at hy
    refine ⟨fn, _, assign, body, hy, roundIn_of_wpIn hfn (hassign _ k x W _ hi hN hGd fun a₁ W₁ hb hax => ?_)⟩
    have hl1 := (hb.block _ hlt).trans hl
    have hk1 := (hb.block _ (lt_of_get hk)).trans hk
    refine ⟨_, run_beginRound hl1 (by rw [hrec]), ?_⟩
    obtain ⟨W2, hW2⟩ : ∃ W2, W2 = W₁.putObj (w.heap.size + 1) (.loop { rec .ready none with state := .busy }) := ⟨_, rfl⟩
    have hf2 : Frm lpO w.heap.size W₁ W2 := by rw [hW2]; exact frm_putLoop _ hl1 rfl (by omega)
    have hl2 : W2.heap[w.heap.size + 1]? = some (.loop { rec .ready none with state := .busy }) := by rw [hW2]; exact World.putObj_heap_same (lt_of_get hl1)
    have hk2 : W2.heap[w.heap.size]? = some (.deferred (some [])) := by rw [hW2]; exact (World.putObj_heap_other (by omega)).trans hk1
    rw [← hW2]
    refine wpIn_mono (hbody _ k x a₁ W2 hN (hI _ _ _ hi ((Frm.of_below hb).trans hf2)) (hAx _ _ _ _ _ hax hf2)) ?_
    rintro e a3 W3 hp
    cases e with
    | normal =>
      obtain ⟨hk3, hi3⟩ := hp
      have hl3 := hk3 _ _ hl2 rfl
      have hkk := hk3 _ _ hk2 rfl
      have hr := run_endRound (P := P) none hl3
      rw [hrec] at hr
      refine ⟨_, _, hr, .inl ⟨rfl, hI _ _ _ hi3 (frm_putLoop _ hl3 rfl (by omega)), ?_, (World.putObj_heap_other (by omega)).trans hkk⟩⟩
      rw [hrec]
      exact World.putObj_heap_same (lt_of_get hl3)
    | ret =>
      obtain ⟨hk3, hi3⟩ := hp
      have hl3 := hk3 _ _ hl2 rfl
      have hkk := hk3 _ _ hk2 rfl
      have hr := run_endRound (P := P) (some .ret) hl3
      rw [hrec] at hr
      refine ⟨_, _, hr, .inr ⟨rfl, hIx _ _ hi3 (frm_putLoop _ hl3 rfl (by omega)), ?_, (World.putObj_heap_other (by omega)).trans hkk⟩⟩
      rw [hrec]
      exact World.putObj_heap_same (lt_of_get hl3)
    | _ => exact hp.elim
  · rintro e W2 ⟨⟨v, rfl⟩, ⟨hi, hl, hk⟩ | ⟨hi, hl, hk⟩⟩
    · have := run_endLoop (P := P) hl (by rw [hrec]; simp)
      rw [hrec] at this
      exact ⟨none, _, this, hdone _ (hI _ _ _ hi (frm_putLoop _ hl rfl (by omega))) ((World.putObj_heap_other (by omega)).trans hk)⟩
    · have := run_endLoop (P := P) hl (by rw [hrec]; simp)
      rw [hrec] at this
      exact ⟨some .ret, _, this, wpIn_ret (hstop _ (hIx _ _ hi (frm_putLoop _ hl rfl (by omega))) ((World.putObj_heap_other (by omega)).trans hk))⟩
end Go.Proofs.YtbfgoojpbhlboaaDoor
