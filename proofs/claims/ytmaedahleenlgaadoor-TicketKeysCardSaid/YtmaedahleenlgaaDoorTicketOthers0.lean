/- Worlds beside the walk of TicketOthers. No condition. -/
import Derived.Test.YtmaedahleenlgaaDoorTicketIssues
import Derived.Test.YtmaedahleenlgaaDoorPureTicket3
set_option linter.unusedVariables false
set_option linter.unusedSimpArgs false
namespace Go.Proofs.YtmaedahleenlgaaDoor
open Go Go.RowKit Go.WideMaps

theorem blk_set {w : World} {g i : Nat} {cs : Array Value} {t : TypeId} {fr : Nat × Nat} (h : w.heap[g]? = some (.cells cs t fr)) (v : Value) : (w.setCell ⟨g, i, none⟩ v).heap[g]? = some (.cells (cs.setIfInBounds i v) t fr) := by
  rw [setCell_eq_setRow w g i cs t fr v h]
  exact setRow_heap w g _ _ t _ h
/-- Four numbers are stored into a block. -/
def set4 (w : World) (z : Nat) (a b c d : Int) : World := (((w.setCell ⟨z, 0, none⟩ (.int .i64 a)).setCell ⟨z, 1, none⟩ (.int .i64 b)).setCell ⟨z, 2, none⟩ (.int .i64 c)).setCell ⟨z, 3, none⟩ (.int .i64 d)
def Zero4 (w : World) (z : Nat) : Prop := w.heap[z]? = some (.cells #[.int .i64 0, .int .i64 0, .int .i64 0, .int .i64 0] 61 (0, 0))
theorem set4_other (w : World) (z k : Nat) (a b c d : Int) (h : k ≠ z) : (set4 w z a b c d).heap[k]? = w.heap[k]? := by
  unfold set4
  rw [Below.heap_setCell _ _ _ _ h, Below.heap_setCell _ _ _ _ h, Below.heap_setCell _ _ _ _ h, Below.heap_setCell _ _ _ _ h]
theorem set4_size (w : World) (z : Nat) (a b c d : Int) : (set4 w z a b c d).heap.size = w.heap.size := by simp [set4, World.setCell]
theorem set4_at {w : World} {z : Nat} (a b c d : Int) (h : Zero4 w z) : (set4 w z a b c d).heap[z]? = some (.cells #[.int .i64 a, .int .i64 b, .int .i64 c, .int .i64 d] 61 (0, 0)) := by
  unfold set4
  have h1 := blk_set (i := 0) h (.int .i64 a)
  have h2 := blk_set (i := 1) h1 (.int .i64 b)
  have h3 := blk_set (i := 2) h2 (.int .i64 c)
  have h4 := blk_set (i := 3) h3 (.int .i64 d)
  rw [h4]
  rfl
theorem set4_zfr {w : World} {z : Nat} (a b c d : Int) (h : Zero4 w z) : Zfr (some z) w (set4 w z a b c d) :=
  ⟨by rw [set4_size]; exact Nat.le_refl _, fun k o hk hn => (set4_other w z k a b c d (fun e => hn (by rw [e]))).trans hk, fun g hg cur t hc => by
    cases hg
    unfold Zero4 at h
    rw [h] at hc
    cases hc
    refine ⟨_, set4_at a b c d h, fun j x hj hx => ?_⟩
    match j, hj with
    | 0, hj => cases hj; exact absurd rfl hx
    | 1, hj => cases hj; exact absurd rfl hx
    | 2, hj => cases hj; exact absurd rfl hx
    | 3, hj => cases hj; exact absurd rfl hx
    | j + 4, hj => simp at hj⟩
theorem set4_below {w V : World} {B z : Nat} (h : Below B w V) (hz : B ≤ z) (a b c d : Int) : Below B w (set4 V z a b c d) := (((h.setCell hz _).setCell hz _).setCell hz _).setCell hz _
theorem set4_tab {w : World} {B tb z : Nat} {T : List Nd} (ht : IsTab B w tb T) (a b c d : Int) (h : Zero4 w z) : IsTab B (set4 w z a b c d) tb T :=
  ht.zfr (v := .slice (some ⟨z, 0, none⟩) 1 1) (set4_zfr a b c d h) fun g hg => by
    cases hg
    exact ⟨_, _, h, by decide⟩
theorem Zero4.frm {w w' : World} {B z : Nat} (h : Zero4 w z) (hf : Frm tabO B w w') : Zero4 w' z := hf.block _ _ h (.inr rfl)
theorem Zero4.below {w w' : World} {z : Nat} (h : Zero4 w z) (hb : Below w.heap.size w w') : Zero4 w' z := (hb.block _ (lt_of_get h)).trans h
theorem Zero4.cells {w : World} {z : Nat} (h : Zero4 w z) : w.cell? ⟨z, 0, none⟩ = some (.int .i64 0) ∧ w.cell? ⟨z, 1, none⟩ = some (.int .i64 0) ∧ w.cell? ⟨z, 2, none⟩ = some (.int .i64 0) ∧ w.cell? ⟨z, 3, none⟩ = some (.int .i64 0) := by
  refine ⟨?_, ?_, ?_, ?_⟩ <;> (rw [cell_of_row w z _ _ _ _ h]; rfl)
theorem Zero4.free {w : World} {z : Nat} (h : Zero4 w z) (i : Nat) : w.frozen? ⟨z, i, none⟩ = false := by unfold Zero4 at h; simp [World.frozen?, h]
theorem zero4_new (w : World) : Zero4 (w.alloc (.cells #[.int .i64 0, .int .i64 0, .int .i64 0, .int .i64 0] 61)) w.heap.size := heap_alloc_new w _

/-- A local row of four terms. -/
def FourAt (w : World) (g : Nat) (a b c d : Int) : Prop := w.heap[g]? = some (.cells #[.int .i64 a, .int .i64 b, .int .i64 c, .int .i64 d] 29 (0, 0))
theorem FourAt.later {w w' : World} {B g : Nat} {a b c d : Int} (h : FourAt w g a b c d) (hb : Below B w w') (hB : g < B) : FourAt w' g a b c d := (hb.block _ hB).trans h
theorem FourAt.frm {w w' : World} {B g : Nat} {a b c d : Int} (h : FourAt w g a b c d) (hf : Frm tabO B w w') : FourAt w' g a b c d := hf.block _ _ h (.inr rfl)
theorem FourAt.lt {w : World} {g : Nat} {a b c d : Int} (h : FourAt w g a b c d) : g < w.heap.size := lt_of_get h
theorem FourAt.at_ {w : World} {g : Nat} {a b c d : Int} (h : FourAt w g a b c d) {k : Nat} (hk : k < 4) : w.cell? ⟨g, k, none⟩ = some (.int .i64 (nth [a, b, c, d] k)) := by
  rw [cell_of_row w g k _ _ _ h]
  match k, hk with
  | 0, _ => rfl
  | 1, _ => rfl
  | 2, _ => rfl
  | 3, _ => rfl
/-- All that the walk keeps. -/
structure Bun (w : World) (B0 tb gR : Nat) (v t l a b c d : Int) (T : List Nd) (V : World) : Prop where
  tab : IsTab B0 V tb T
  tk : Tk3At V w.heap.size v t l
  four : FourAt V gR a b c d
  bl : Below w.heap.size w V
theorem Bun.below {w : World} {B0 tb gR : Nat} {v t l a b c d : Int} {T : List Nd} {V V' : World} (h : Bun w B0 tb gR v t l a b c d T V) (hb : Below V.heap.size V V') : Bun w B0 tb gR v t l a b c d T V' :=
  ⟨h.tab.below hb, h.tk.later hb h.tk.lt, h.four.later hb h.four.lt, below_next h.bl h.bl.size hb⟩
theorem Bun.frm {w : World} {B0 tb gR : Nat} {v t l a b c d : Int} {T T' : List Nd} {V V' : World} (h : Bun w B0 tb gR v t l a b c d T V) (ht : IsTab B0 V' tb T') (hf : Frm tabO B0 V V') (hB : w.heap.size ≤ B0) : Bun w B0 tb gR v t l a b c d T' V' :=
  ⟨ht, h.tk.frm hf, h.four.frm hf, h.bl.trans ((hf.weak hB).below h.bl.size)⟩
theorem Bun.set4 {w : World} {B0 tb gR : Nat} {v t l a b c d : Int} {T : List Nd} {V : World} {z : Nat} (h : Bun w B0 tb gR v t l a b c d T V) (p q r s : Int) (hz : Zero4 V z) (hB : w.heap.size ≤ z) : Bun w B0 tb gR v t l a b c d T (set4 V z p q r s) := by
  have n1 : w.heap.size ≠ z := fun e => by
    have k := h.tk
    unfold Tk3At at k
    unfold Zero4 at hz
    rw [e, hz] at k
    cases k
  have n2 : gR ≠ z := fun e => by
    have k := h.four
    unfold FourAt at k
    unfold Zero4 at hz
    rw [e, hz] at k
    cases k
  exact ⟨set4_tab h.tab p q r s hz, (set4_other V z _ p q r s n1).trans h.tk, (set4_other V z _ p q r s n2).trans h.four, set4_below h.bl hB p q r s⟩
theorem Bun.S {w : World} {B0 tb gR : Nat} {v t l a b c d : Int} {T : List Nd} {V : World} (h : Bun w B0 tb gR v t l a b c d T V) {k : Nat} (hk : k < 4) {rk : Int} (e : rk = nth [a, b, c, d] k) : V.cell? ⟨gR, k, none⟩ = some (.int .i64 rk) ∧ V.cell? ⟨w.heap.size, 1, none⟩ = some (.int .i64 t) := ⟨by rw [e]; exact h.four.at_ hk, h.tk.x1⟩

/-- The conversion of a constant's bytes, wherever their row lies. -/
theorem conv_at {X : World} {g n c : Nat} {C : Array Value} (hX : X.heap[g]? = some (.cells C 5 (0, 0))) :
    ∃ V, (convert 22 22 (.slice (some ⟨g, 0, none⟩) n c)).run Tryd.prog X = .ok (.slice (some ⟨g, 0, none⟩) n c) V ∧
      (∃ fr, V.heap[g]? = some (.cells C 5 fr)) ∧ (∀ k, k ≠ g → V.heap[k]? = X.heap[k]?) ∧ ∀ (B : Nat) (w : World), B ≤ g → Below B w X → Below B w V := by
  have hsh : X.shape? g = some (5, C.size) := by unfold World.shape?; rw [hX]
  refine ⟨X.freeze ⟨g, C.size, none⟩ 1, ?_, ?_, fun k hk => ?_, fun B w hB hb => ?_⟩
  · simp [convert, run_underlying Tryd.underlying22, run_underlying Tryd.underlying5, markStringish, hsh]
  · unfold World.freeze
    rw [if_neg (by decide)]
    show ∃ fr, (X.heap.modify g _)[g]? = _
    rw [Array.getElem?_modify, if_pos rfl, hX]
    exact ⟨_, rfl⟩
  · unfold World.freeze
    rw [if_neg (by decide)]
    show (X.heap.modify g _)[k]? = _
    rw [Array.getElem?_modify, if_neg (Ne.symm hk)]
  · unfold World.freeze
    rw [if_neg (by decide)]
    exact ⟨hb.os, hb.tape, hb.output, by show w.heap.size ≤ (X.heap.modify g _).size; simpa using hb.size, fun k hk => by
      show (X.heap.modify g _)[k]? = _
      rw [Array.getElem?_modify, if_neg (by omega)]
      exact hb.block k hk⟩
theorem rds_row {w : World} {B g t : Nat} {xs : List Int} {fr : Nat × Nat} {cs : Array Value} (hn : w.heap[g]? = some (.cells cs t fr)) (ht : spT t = false) (hc : cs = (xs.map (Value.int .u8)).toArray) (n : Nat) (hl : xs.length = n) (hm : n ≤ 1000000) (hB : B ≤ g) :
    Rds 0 w .u8 (some ⟨g, 0, none⟩) n n xs := by
  subst hc hl
  refine ⟨rfl, Nat.le_refl _, by omega, fun j hj => ⟨_, rfl, ?_⟩, fun _ a e => ?_⟩
  · rw [addr_add, Nat.zero_add, cell_of_row _ _ j _ _ _ hn]
    simp [List.getElem?_map, nth_lt hj]
  · cases e
    exact ⟨lt_of_get hn, .inr ⟨_, _, _, hn, ht⟩⟩
theorem tick_list {sh : ByteArray} : sh = ticketS ↔ sh.toList = [116, 105, 99, 107, 101, 116] := by
  have e : ticketS.toList = [116, 105, 99, 107, 101, 116] := by rw [ByteArray.toList_eq]; rfl
  constructor
  · intro h; rw [h, e]
  · intro h
    have k := str_beq sh ticketS
    rw [e, h] at k
    exact of_decide_eq_true (k.symm.trans (by decide))
theorem seal_yes {n : Nat} {T T3 : List Nd} {h3 r6 h5 v t l : Int} {hd : ByteArray} (sa : SealAt T3 h3 1 hd r6) (hh : hd = ticketS) (hr : getT T r6 = some ⟨3, ByteArray.empty, [h5, 2]⟩) (hx : getT T h5 = some (nT (strOfNums (textV v t l)))) (e : Ext n T T3) (hsz : ¬ (sizeV v = 0 ∨ sizeV t = 0 ∨ sizeV l = 0)) : redeemV T3 1 h3 t = ((v, t, l, 2), 0) := by
  have hl : 0 ≤ l ∧ l ≤ 4611686018427387903 := sizeV_pos.1 fun k => hsz (.inr (.inr k))
  rw [sa.redeem, if_pos hh, rowV_row (e.get hr)]
  have e2 : nodeT T3 h5 = nT (strOfNums (textV v t l)) := by unfold nodeT; rw [e.get hx]; rfl
  rw [e2]
  have e3 : (if (nT (strOfNums (textV v t l))).kind = 1 then readT (numsL (nT (strOfNums (textV v t l))).text) else none) = some (v, t, l) := (if_pos rfl).trans (by show readT (numsL (strOfNums (textV v t l))) = _; rw [numsL_str (textV_byt v t l), readT_textV hsz])
  rw [e3]
  exact if_neg (by omega)
theorem seal_no {T3 : List Nd} {h3 r6 t : Int} {hd : ByteArray} (sa : SealAt T3 h3 1 hd r6) (hh : ¬ hd = ticketS) : redeemV T3 1 h3 t = ((0, 0, 0, 0), 14) := by
  rw [sa.redeem, if_neg hh]
  rfl
end Go.Proofs.YtmaedahleenlgaaDoor
