/- Own texts, one behind the other. Each bears its own remark. -/
import Derived.Test.YtmaedahleenlgaaDoorMind
import Derived.Test.YtmaedahleenlgaaDoorTerm3
import Derived.Test.YtmaedahleenlgaaDoorLater
import Derived.Test.YtmaedahleenlgaaDoorCut
import Derived.StillTailTactics
import Derived.Test.YtmaedahleenlgaaDoorRange
import Derived.Test.YtmaedahleenlgaaDoorLook
/- know.New, grow, is, Learn (layer 3). No condition. -/
set_option linter.unusedVariables false
set_option linter.unusedSimpArgs false
namespace Go.Proofs.YtmaedahleenlgaaDoor
open Go Go.RowKit

/-- A table's address: one that holds T, or none. -/
def TabAt (B : Nat) (w : World) (tp : Option Addr) (T : List Nd) : Prop := (tp = none ∧ T = []) ∨ ∃ tb, tp = some ⟨tb, 0, none⟩ ∧ IsTab B w tb T
theorem TabAt.below {B : Nat} {w w' : World} {tp : Option Addr} {T : List Nd} (h : TabAt B w tp T) (hb : Below w.heap.size w w') : TabAt B w' tp T := by
  rcases h with h | ⟨tb, e, ht⟩
  · exact .inl h
  · exact .inr ⟨tb, e, ht.below hb⟩
theorem TabAt.mnd {B : Nat} {w w' : World} {tp : Option Addr} {T : List Nd} (h : TabAt B w tp T) (hf : Frm mndO B w w') : TabAt B w' tp T := by
  rcases h with h | ⟨tb, e, ht⟩
  · exact .inl h
  · exact .inr ⟨tb, e, ht.frm hf (Nat.le_refl _) mndO_tab mndO_sp⟩
theorem TabAt.wf {B : Nat} {w : World} {tp : Option Addr} {T : List Nd} (h : TabAt B w tp T) : WfT T := by
  rcases h with ⟨_, rfl⟩ | ⟨tb, e, ht⟩
  · exact wfT_nil
  · exact ht.1
set_option maxHeartbeats 800000 in
theorem ksize_any {B : Nat} {tp : Option Addr} {T : List Nd} (w : World) (h : TabAt B w tp T) : Calls Tryd.prog 62 #[.pointer tp] w fun e w' => e = .returned (.int .i64 T.length) ∧ w' = w := by
  rcases h with ⟨rfl, rfl⟩ | ⟨tb, rfl, ht⟩
  · go_enter Tryd.func62, Tryd.ntmps62
    go_wp2_with fail
    go_ret
    exact ⟨rfl, rfl⟩
  · refine (size_any w ht).mono ?_
    rintro e w' h
    first | exact h | exact ⟨h.1, h.2.symm⟩
set_option maxHeartbeats 800000 in
theorem knew_any (B : Nat) (tp : Option Addr) (w : World) (hB : B ≤ w.heap.size) : Calls Tryd.prog 41 #[.pointer tp] w fun e w' => e = .returned (.pointer (some ⟨w.heap.size, 0, none⟩)) ∧ MindAt B w' w.heap.size tp (.slice none 0 0) (.slice none 0 0) [] [] 0 false ∧ Below w.heap.size w w' := by
  go_enter Tryd.func41, Tryd.ntmps41
  go_wp2_with fail
  go_ret
  exact ⟨rfl, ⟨heap_alloc_new w _, OwnB.nil _ _, OwnB.nil _ _, fun g e => by simp [Value.ownBlock] at e, hB⟩, below_new _⟩
/-- Is something so of a term? -/
def isB (l : List Bool) (h : Int) : Bool := decide (0 < h) && bget l h
set_option maxHeartbeats 800000 in
theorem is_any {B : Nat} (v : Value) (l : List Bool) (h : Int) (w : World) (hv : OwnB w B v l) (hh : h ≤ 9223372036854775807) : Calls Tryd.prog 56 #[v, .int .i64 h] w fun e w' => e = .returned (.bool (isB l h)) ∧ w' = w := by
  obtain ⟨A, c, rfl⟩ := hv.slice
  obtain ⟨r, hr⟩ : ∃ r, r = isB l h := ⟨_, rfl⟩
  rw [← hr]
  have HR := Lib.hid hr
  have HV := Lib.hid hv
  clear hr hv
  go_enter Tryd.func56, Tryd.ntmps56
  by_cases h0 : 0 < h
  rotate_left
  · have HN : Hid (r = false) := by show _ = _; rw [HR.out]; unfold isB; rw [decide_eq_false h0]; rfl
    go_wp2_with fail
    go_ret
    exact ⟨by rw [HN.out]; rfl, rfl⟩
  obtain ⟨k, rfl⟩ : ∃ k : Nat, h = k := ⟨h.toNat, by omega⟩
  by_cases h1 : k < l.length
  rotate_left
  · have HN : Hid (r = false) := by
      show _ = _
      rw [HR.out]
      unfold isB bget
      rw [List.getD_eq_getElem?_getD, Int.toNat_natCast, List.getElem?_eq_none (by omega)]
      simp
    have h1' : ¬ (k : Int) < (l.length : Int) := by omega
    go_wp2_with fail
    go_ret
    exact ⟨by rw [HN.out]; rfl, rfl⟩
  · obtain ⟨g, cap, e1, -, -, hc, hm, hcell, -, -⟩ := HV.out.form (by omega)
    simp only [Value.slice.injEq] at e1
    obtain ⟨rfl, -, rfl⟩ := e1
    have g1 := hcell k h1
    have HN : Hid (r = l.getD k false) := by
      show _ = _
      rw [HR.out]
      unfold isB bget
      rw [decide_eq_true h0, Int.toNat_natCast]
      rfl
    obtain ⟨b, hb⟩ : ∃ b, b = l.getD k false := ⟨_, rfl⟩
    rw [← hb] at g1
    have HB := Lib.hid hb
    have h1' : (k : Int) < (l.length : Int) := by omega
    clear hcell hb
    go_wp2_with fail
    go_ret
    exact ⟨by rw [HN.out, ← HB.out]; rfl, rfl⟩
end Go.Proofs.YtmaedahleenlgaaDoor

/- Appending to a row of bools; know.grow (layer 3). No condition. -/
set_option linter.unusedVariables false
set_option linter.unusedSimpArgs false
namespace Go.Proofs.YtmaedahleenlgaaDoor
open Go Go.RowKit

theorem bools_oneCell (bs : List Bool) : ∀ u ∈ bs.map Value.bool, u.oneCell' = true := by
  intro u hu
  obtain ⟨b, -, rfl⟩ := List.mem_map.1 hu
  rfl
/-- append(s, b) for a row of bools of the call's own: the row stays where it is, or lies in a new block. -/
theorem run_appB {w : World} {B : Nat} {v : Value} {bs : List Bool} {ty : Nat} (hown : OwnB w B v bs) (b : Bool) {ad : Addr} {m c : Nat} (hm : m = 1) (hc : w.cell? ad = some (.bool b)) (hB : B ≤ w.heap.size) (hn : bs.length ≤ 1000000) :
    ∃ v' w', (Builtin.append_ #[108, 108] ty #[v, .slice (some ad) m c]).run Tryd.prog w = .ok v' w' ∧ OwnB w' B v' (bs ++ [b]) ∧ w.grownBy w' v.ownBlock ∧ (∀ g, v'.ownBlock = some g → v.ownBlock = some g ∨ w.heap.size ≤ g) := by
  subst hm
  obtain ⟨i, hi, hz, hs, hby⟩ := info_parts info_bool
  have ht := Tryd.underlying108
  have hl : ([Value.bool b]).length = 1 * i.size := by rw [hs]; rfl
  have hadd : ad.add 0 = ad := by unfold Addr.add; split <;> simp_all
  have hnews : ∀ j u, ([Value.bool b])[j]? = some u → w.cell? (ad.add j) = some u := by
    intro j u hu
    match j, hu with
    | 0, hu => simp at hu; subst hu; rw [hadd]; exact hc
  have grown : ∀ (old : Nat), old < bs.length + 1 → ∀ (row : Option Nat) (W : World), W = (w.drew.alloc (.cells ((bs.map Value.bool).toArray ++ #[Value.bool b] ++ Builtin.zeroCells (Value.bool false).cells (grownCap w (bs.length + 1) old 4 - (bs.length + 1))) 4)) →
      OwnB W B (.slice (some ⟨w.heap.size, 0, none⟩) (bs.length + 1) (grownCap w (bs.length + 1) old 4)) (bs ++ [b]) ∧ w.grownBy W row := by
    intro old ho row W hW
    have hge := grownCap_ge w (bs.length + 1) old 4
    have hcm : grownCap w (bs.length + 1) old 4 ≤ maxLen := grownCap_le_maxLen w (bs.length + 1) old 4 (by simp only [maxLen]; omega)
    subst hW
    refine ⟨⟨by simp, .inr ⟨w.heap.size, _, _, by simp, hB, heap_alloc_new w.drew _, by simp; omega, hcm, ?_, ?_⟩⟩, ⟨rfl, rfl, rfl, by simp, fun q hq _ => (Array.getElem?_push_lt hq).trans (Array.getElem?_eq_getElem hq).symm⟩⟩
    · have hz1 : (Value.bool false).cells.size = 1 := rfl
      simp only [Array.size_append, List.size_toArray, List.length_map, size_zeroCells, hz1]
      simp
      omega
    · simp only [Array.toList_append, List.append_assoc, List.map_append]
      rw [← List.append_assoc]
      have : (bs ++ [b]).length * 1 = (bs.map Value.bool ++ [Value.bool b]).length := by simp
      rw [this]
      exact List.take_left
  rcases hown.2 with ⟨rfl, hn0⟩ | ⟨g, cap, cur, rfl, hb, hg, hnc, hcm, hcs, htake⟩
  · have hb0 : bs = [] := List.eq_nil_of_length_eq_zero hn0
    subst hb0
    have hrun := run_append_nil (P := Tryd.prog) w 108 ty 4 i (.bool false) ht hi hz ad 1 c [.bool b] hl hnews (by omega) (by omega) (by rw [hby]; omega)
    have hgr := grown 0 (by simp) (Value.ownBlock (.slice none 0 0)) _ rfl
    simp only [List.length_nil, Nat.zero_add, List.map_nil, List.nil_append, Array.empty_append] at hgr
    exact ⟨_, _, hrun, hgr.1, hgr.2, fun g e => .inr (by simp [Value.ownBlock] at e; omega)⟩
  · by_cases hroom : bs.length + 1 ≤ cap
    · have hrun := run_app_room (P := Tryd.prog) 108 ty 4 i ht hi hs g bs.length cap cur 4 hg ad 1 c [.bool b] rfl hnews (by intro u hu; simp at hu; subst hu; rfl) hroom (by omega)
      refine ⟨_, _, hrun, ⟨by simp, .inr ⟨g, cap, _, by simp, hb, setRow_heap w g cur _ 4 _ hg, by simp; omega, hcm, ?_, ?_⟩⟩, ⟨rfl, rfl, rfl, by simp, fun q _ hq => setRow_other w g q _ (fun e => hq (by simp [Value.ownBlock, e]))⟩, fun g' e => .inl (by simpa [Value.ownBlock] using e)⟩
      · simp only [List.size_toArray, List.length_append, List.length_take, List.length_drop, Array.length_toList, List.length_singleton]
        omega
      · have e1 : cur.toList.take bs.length = bs.map Value.bool := by rw [Nat.mul_one] at htake; exact htake
        rw [e1]
        simp only [List.map_append]
        have : (bs ++ [b]).length * 1 = (bs.map Value.bool ++ [Value.bool b]).length := by simp
        rw [this]
        exact List.take_left
    · have holds : ∀ j u, (bs.map Value.bool)[j]? = some u → w.cell? ((⟨g, 0, none⟩ : Addr).add j) = some u := by
        intro j u hu
        have e1 : cur.toList.take bs.length = bs.map Value.bool := by rw [Nat.mul_one] at htake; exact htake
        rw [← e1, List.getElem?_take] at hu
        split at hu
        · rw [addr_add, Nat.zero_add, cell_of_row w g j cur 4 (0, 0) hg]; simpa using hu
        · cases hu
      have hrun := run_append_grow (P := Tryd.prog) w 108 ty 4 i (.bool false) ht hi hz ⟨g, 0, none⟩ bs.length cap (bs.map Value.bool) (by rw [hs]; simp) holds ad 1 c [.bool b] hl hnews (by omega) (by omega) (growslice_fits (by omega) (by rw [hby]; omega))
      have hgr := grown cap (by omega) (Value.ownBlock (.slice (some ⟨g, 0, none⟩) bs.length cap)) _ rfl
      exact ⟨_, _, hrun, hgr.1, hgr.2, fun g' e => .inr (by simp [Value.ownBlock] at e; omega)⟩
theorem wp_appB {w : World} {ops : Array Oper} {rest : List Oper} {o : Oper} {a : Act} {Q : Exit → Act → World → Prop} (hgd : o.guard = none) (s x : Operand)
    (ho : o.op = .call { callee := .builtin .append, args := #[s, x], argTypes := #[108, 108] })
    {B : Nat} {v : Value} {bs : List Bool} {b : Bool} {ad : Addr} {m c : Nat} (hv : a.eval s = v) (hx : a.eval x = .slice (some ad) m c) (hown : OwnB w B v bs) (hm : m = 1) (hc : w.cell? ad = some (.bool b)) (hB : B ≤ w.heap.size) (hn : bs.length ≤ 1000000)
    (h : ∀ v' w', OwnB w' B v' (bs ++ [b]) → w.grownBy w' v.ownBlock → (∀ g, v'.ownBlock = some g → v.ownBlock = some g ∨ w.heap.size ≤ g) → wpList Tryd.prog ops Q rest (a.put o.dst v') w') : wpList Tryd.prog ops Q (o :: rest) a w := by
  obtain ⟨v', w', hrun, h1, h2, h3⟩ := run_appB (ty := o.type) hown b hm hc hB hn (c := c)
  exact wp_app_run hgd s x _ _ ho hv hx hrun (h v' w' h1 h2 h3)

/-- A row's room for all terms. -/
def growL (l : List Bool) (n : Nat) : List Bool := l ++ List.replicate (n + 1 - l.length) false
theorem growL_len {l : List Bool} {n : Nat} (h : l.length ≤ n + 1) : (growL l n).length = n + 1 := by simp [growL]; omega
theorem bget_growL (l : List Bool) (n : Nat) (h : Int) : bget (growL l n) h = bget l h := by
  unfold bget growL
  rw [List.getD_eq_getElem?_getD, List.getD_eq_getElem?_getD, List.getElem?_append]
  split
  · rfl
  · rename_i h1
    rw [List.getElem?_replicate, List.getElem?_eq_none (by omega)]
    split <;> rfl
/-- The length of a mind's first row, off the world. -/
def mlen (mb : Nat) (w : World) : Nat := match w.cell? ⟨mb, 1, none⟩ with | some (.slice _ n _) => n | _ => 0
theorem MindAt.mlen {B : Nat} {w : World} {mb : Nat} {tp : Option Addr} {v1 v2 : Value} {F C : List Bool} {size : Nat} {fresh : Bool} (h : MindAt B w mb tp v1 v2 F C size fresh) : Go.Proofs.YtmaedahleenlgaaDoor.mlen mb w = F.length := by
  obtain ⟨A, c, e⟩ := h.f.slice
  unfold Go.Proofs.YtmaedahleenlgaaDoor.mlen
  rw [h.cells.2.1, e]
/-- The first row of a mind, appended to. -/
theorem MindAt.pushF {B : Nat} {w w' : World} {mb : Nat} {tp : Option Addr} {v1 v2 v1' : Value} {F F' C : List Bool} {size : Nat} {fresh : Bool} (h : MindAt B w mb tp v1 v2 F C size fresh) (hg : w.grownBy w' v1.ownBlock) (ho : OwnB w' B v1' F') (hn : ∀ g, v1'.ownBlock = some g → v1.ownBlock = some g ∨ w.heap.size ≤ g) :
    MindAt B (w'.setCell ⟨mb, 1, none⟩ v1') mb tp v1' v2 F' C size fresh ∧ w'.heap[mb]? = w.heap[mb]? := by
  have hb : w'.heap[mb]? = w.heap[mb]? := hg.block mb h.lt fun e => (h.ne.1 mb e.symm) rfl
  have hb' := hb.trans h.blk
  have h2 : OwnB w' B v2 C := h.c.same fun g e => hg.block g (h.c.lt g e).2 fun k => h.apart g k.symm e
  have hne : ∀ g, v1'.ownBlock = some g → v2.ownBlock ≠ some g ∧ g ≠ mb := fun g e => by
    rcases hn g e with q | q
    · exact ⟨h.apart g q, h.ne.1 g q⟩
    · refine ⟨fun k => by have := (h.c.lt g k).2; omega, fun k => by have := h.lt; omega⟩
  refine ⟨⟨mblk_set hb' _, ho.same fun g e => mblk_other _ _ (hne g e).2, h2.same fun g e => mblk_other _ _ (h.ne.2 g e), fun g e => (hne g e).1, h.base⟩, hb⟩
theorem MindAt.pushC {B : Nat} {w w' : World} {mb : Nat} {tp : Option Addr} {v1 v2 v2' : Value} {F C C' : List Bool} {size : Nat} {fresh : Bool} (h : MindAt B w mb tp v1 v2 F C size fresh) (hg : w.grownBy w' v2.ownBlock) (ho : OwnB w' B v2' C') (hn : ∀ g, v2'.ownBlock = some g → v2.ownBlock = some g ∨ w.heap.size ≤ g) :
    MindAt B (w'.setCell ⟨mb, 2, none⟩ v2') mb tp v1 v2' F C' size fresh ∧ w'.heap[mb]? = w.heap[mb]? := by
  have hb : w'.heap[mb]? = w.heap[mb]? := hg.block mb h.lt fun e => (h.ne.2 mb e.symm) rfl
  have hb' := hb.trans h.blk
  have h1 : OwnB w' B v1 F := h.f.same fun g e => hg.block g (h.f.lt g e).2 fun k => h.apart g e k.symm
  have hne : ∀ g, v2'.ownBlock = some g → v1.ownBlock ≠ some g ∧ g ≠ mb := fun g e => by
    rcases hn g e with q | q
    · exact ⟨fun k => h.apart g k q, h.ne.2 g q⟩
    · refine ⟨fun k => by have := (h.f.lt g k).2; omega, fun k => by have := h.lt; omega⟩
  refine ⟨⟨mblk_set hb' _, h1.same fun g e => mblk_other _ _ (h.ne.1 g e), ho.same fun g e => mblk_other _ _ (hne g e).2, fun g e k => (hne g k).1 e, h.base⟩, hb⟩
end Go.Proofs.YtmaedahleenlgaaDoor

/- know.grow and Learn (layer 3): the walks. No condition. -/
set_option linter.unusedVariables false
set_option linter.unusedSimpArgs false
namespace Go.Proofs.YtmaedahleenlgaaDoor
open Go Go.RowKit

theorem rep_snoc (F : List Bool) (j : Nat) : F ++ List.replicate j false ++ [false] = F ++ List.replicate (j + 1) false := by
  rw [List.append_assoc, ← List.replicate_succ']
/-- A step of a mind's that begins at w and stands at w'. -/
structure MStep (B : Nat) (w : World) (mb : Nat) (tp : Option Addr) (v1 v2 : Value) (u1 u2 : Value) (F C : List Bool) (size : Nat) (fresh : Bool) (w' : World) : Prop where
  at_ : MindAt B w' mb tp u1 u2 F C size fresh
  fr : MFrm (mS mb v1 v2) w w'
  o1 : ∀ g, u1.ownBlock = some g → v1.ownBlock = some g ∨ w.heap.size ≤ g
  o2 : ∀ g, u2.ownBlock = some g → v2.ownBlock = some g ∨ w.heap.size ≤ g
theorem MStep.to {B : Nat} {w : World} {mb : Nat} {tp : Option Addr} {v1 v2 u1 u2 : Value} {F C : List Bool} {size : Nat} {fresh : Bool} {w' : World} (h : MStep B w mb tp v1 v2 u1 u2 F C size fresh w') : MindTo B w mb tp v1 v2 F C size fresh w' := ⟨u1, u2, h.at_, h.fr, h.o1, h.o2⟩
theorem MStep.refl {B : Nat} {w : World} {mb : Nat} {tp : Option Addr} {v1 v2 : Value} {F C : List Bool} {size : Nat} {fresh : Bool} (h : MindAt B w mb tp v1 v2 F C size fresh) : MStep B w mb tp v1 v2 v1 v2 F C size fresh w := ⟨h, .refl _ _, fun _ e => .inl e, fun _ e => .inl e⟩
theorem MStep.next {B : Nat} {w w1 w2 : World} {mb : Nat} {tp : Option Addr} {v1 v2 u1 u2 x1 x2 : Value} {F C F' C' : List Bool} {size size' : Nat} {fresh fresh' : Bool} (h : MStep B w mb tp v1 v2 u1 u2 F C size fresh w1) (k : MStep B w1 mb tp u1 u2 x1 x2 F' C' size' fresh' w2) : MStep B w mb tp v1 v2 x1 x2 F' C' size' fresh' w2 := by
  refine ⟨k.at_, h.fr.trans k.fr (MindTo.sub (B := B) (w' := w1) h.o1 h.o2), fun g e => ?_, fun g e => ?_⟩
  · rcases k.o1 g e with q | q
    · exact h.o1 g q
    · exact .inr (Nat.le_trans h.fr.size q)
  · rcases k.o2 g e with q | q
    · exact h.o2 g q
    · exact .inr (Nat.le_trans h.fr.size q)
theorem MStep.below {B : Nat} {w w1 w2 : World} {mb : Nat} {tp : Option Addr} {v1 v2 u1 u2 : Value} {F C : List Bool} {size : Nat} {fresh : Bool} (h : MStep B w mb tp v1 v2 u1 u2 F C size fresh w1) (hb : Below w1.heap.size w1 w2) : MStep B w mb tp v1 v2 u1 u2 F C size fresh w2 :=
  h.next ⟨h.at_.below hb, .of_below hb, fun _ e => .inl e, fun _ e => .inl e⟩
theorem MStep.fresh {B : Nat} {w w1 : World} {mb : Nat} {tp : Option Addr} {v1 v2 u1 u2 : Value} {F C : List Bool} {size : Nat} {fresh : Bool} (h : MStep B w mb tp v1 v2 u1 u2 F C size fresh w1) (b : Bool) : MStep B w mb tp v1 v2 u1 u2 F C size b (w1.setCell ⟨mb, 4, none⟩ (.bool b)) :=
  h.next ⟨h.at_.setFresh b, .set _ _ _ (.inl rfl), fun _ e => .inl e, fun _ e => .inl e⟩
theorem MStep.size {B : Nat} {w w1 : World} {mb : Nat} {tp : Option Addr} {v1 v2 u1 u2 : Value} {F C : List Bool} {size : Nat} {fresh : Bool} (h : MStep B w mb tp v1 v2 u1 u2 F C size fresh w1) (n : Nat) : MStep B w mb tp v1 v2 u1 u2 F C n fresh (w1.setCell ⟨mb, 3, none⟩ (.int .i64 n)) :=
  h.next ⟨h.at_.setSize n, .set _ _ _ (.inl rfl), fun _ e => .inl e, fun _ e => .inl e⟩
/-- The first row takes one more. -/
theorem MStep.pushF {B : Nat} {w w1 w2 : World} {mb : Nat} {tp : Option Addr} {v1 v2 u1 u2 x1 : Value} {F F' C : List Bool} {size : Nat} {fresh : Bool} (h : MStep B w mb tp v1 v2 u1 u2 F C size fresh w1) (hg : w1.grownBy w2 u1.ownBlock) (ho : OwnB w2 B x1 F') (hn : ∀ g, x1.ownBlock = some g → u1.ownBlock = some g ∨ w1.heap.size ≤ g) :
    MStep B w mb tp v1 v2 x1 u2 F' C size fresh (w2.setCell ⟨mb, 1, none⟩ x1) := by
  have k := (h.at_.pushF hg ho hn).1
  exact h.next ⟨k, (MFrm.of_grown hg fun i e => .inr (.inl e)).trans (MFrm.set (S := mS mb u1 u2) w2 ⟨mb, 1, none⟩ x1 (.inl rfl)) fun i q => .inl q, hn, fun _ e => .inl e⟩
theorem MStep.pushC {B : Nat} {w w1 w2 : World} {mb : Nat} {tp : Option Addr} {v1 v2 u1 u2 x2 : Value} {F C C' : List Bool} {size : Nat} {fresh : Bool} (h : MStep B w mb tp v1 v2 u1 u2 F C size fresh w1) (hg : w1.grownBy w2 u2.ownBlock) (ho : OwnB w2 B x2 C') (hn : ∀ g, x2.ownBlock = some g → u2.ownBlock = some g ∨ w1.heap.size ≤ g) :
    MStep B w mb tp v1 v2 u1 x2 F C' size fresh (w2.setCell ⟨mb, 2, none⟩ x2) := by
  have k := (h.at_.pushC hg ho hn).1
  exact h.next ⟨k, (MFrm.of_grown hg fun i e => .inr (.inr e)).trans (MFrm.set (S := mS mb u1 u2) w2 ⟨mb, 2, none⟩ x2 (.inl rfl)) fun i q => .inl q, fun _ e => .inl e, hn⟩

set_option maxHeartbeats 3200000 in
set_option maxRecDepth 100000 in
theorem grow_any {B : Nat} {mb : Nat} {tp : Option Addr} {v1 v2 : Value} {F C : List Bool} {size : Nat} {fresh : Bool} {T : List Nd} (w : World) (hm : MindAt B w mb tp v1 v2 F C size fresh) (ht : TabAt B w tp T) (hl : F.length = C.length) (hF : F.length ≤ T.length + 1) :
    Calls Tryd.prog 54 #[.pointer (some ⟨mb, 0, none⟩)] w fun e w' => e = .returned (.tuple #[]) ∧ ∃ u1 u2, MStep B w mb tp v1 v2 u1 u2 (growL F T.length) (growL C T.length) T.length (fresh && decide (T.length = size)) w' := by
  have key := ksize_any w ht
  have hT := ht.wf.len
  obtain ⟨n, hn⟩ : ∃ n, n = T.length := ⟨_, rfl⟩
  rw [← hn] at key hT hF ⊢
  clear ht hn
  obtain ⟨x0, x1, x2, x3, x4⟩ := hm.cells
  have f4 := hm.free 4
  have HM := Lib.hid (MStep.refl hm)
  have HL := Lib.hid hl
  have HF := Lib.hid hF
  have HB : Hid (B ≤ w.heap.size) := Nat.le_trans hm.base (Nat.le_of_lt hm.lt)
  obtain ⟨A1, c1, e1⟩ := hm.f.slice
  obtain ⟨A2, c2, e2⟩ := hm.c.slice
  clear hm hl hF
  rw [e1] at x1
  rw [e2] at x2
  obtain ⟨fr, hfr⟩ : ∃ fr, fr = (fresh && decide (n = size)) := ⟨_, rfl⟩
  have HFR := Lib.hid hfr
  rw [← hfr]
  clear hfr e1 e2
  go_enter Tryd.func54, Tryd.ntmps54
  go_wp2_with fail
  refine key.mono ?_
  clear key
  rintro e w1 ⟨rfl, hw1⟩
  subst hw1
  by_cases hs : n = size
  rotate_left
  · have hsb : ((n : Int) != (size : Int)) = true := by rw [bne_iff_ne]; omega
    have hfr : fr = false := by rw [HFR.out, decide_eq_false hs]; cases fresh <;> rfl
    have HM1 := Lib.hid (HM.out.fresh false)
    obtain ⟨W, hW⟩ : ∃ W, W = w1.setCell ⟨mb, 4, none⟩ (.bool false) := ⟨_, rfl⟩
    rw [← hW, ← hfr] at HM1
    clear hs HFR hfr
    go_wp2_with fail
    rw [← hW]
    clear hW

    go_loopw [] (fun wr => ∃ (j : Nat) (u1 u2 : Value), j ≤ n + 1 - F.length ∧ Hid (MStep B w1 mb tp v1 v2 u1 u2 (F ++ List.replicate j false) (C ++ List.replicate j false) size fr wr)) (fun wr => n + 1 - mlen mb wr)
    case atStart => exact ⟨0, v1, v2, Nat.zero_le _, Lib.hid (by simpa using HM1.out)⟩
    case round =>
      obtain ⟨j, u1, u2, hj, hM⟩ := hrel
      have hlen : mlen mb wr = F.length + j := by rw [hM.out.at_.mlen]; simp
      have HLEN := Lib.hid hlen
      obtain ⟨G, hG⟩ : ∃ G, G = F ++ List.replicate j false := ⟨_, rfl⟩
      obtain ⟨D, hD⟩ : ∃ D, D = C ++ List.replicate j false := ⟨_, rfl⟩
      have hGl : G.length = F.length + j := by rw [hG]; simp
      have hDl : D.length = F.length + j := by rw [hD]; simp [HL.out]
      rw [← hG, ← hD] at hM
      obtain ⟨z0, z1, z2, z3, z4⟩ := hM.out.at_.cells
      obtain ⟨B1, d1, b1⟩ := hM.out.at_.f.slice
      obtain ⟨B2, d2, b2⟩ := hM.out.at_.c.slice
      have HG := Lib.hid hG
      have HD := Lib.hid hD
      have hGl' := Lib.hid hGl
      have hDl' := Lib.hid hDl
      by_cases hlt : F.length + j ≤ n
      · have hle : (G.length : Int) ≤ (n : Int) := by omega
        have hB1 : B ≤ wr.heap.size := Nat.le_trans HB.out hM.out.fr.size
        have HOF := Lib.hid (hM.out.at_.f.below (below_new (.cells #[.bool false] 4)))
        have HMa := Lib.hid (hM.out.below (below_new (.cells #[.bool false] 4)))
        have hG6 : G.length ≤ 1000000 := by omega
        have hD6 : D.length ≤ 1000000 := by omega
        have HHF := Lib.hid HF.out
        subst b1
        clear hG hD hlen hGl hDl x0 x1 x2 x3 x4 f4
        have HC1 : Hid ((wr.alloc (.cells #[.bool false] 4)).cell? ⟨wr.heap.size, 0, none⟩ = some (.bool false)) := by show _ = _; simp [go_sem]
        have HS1 : Hid (B ≤ (wr.alloc (.cells #[.bool false] 4)).heap.size) := by show _ ≤ _; simp; omega
        go_wp2_with (at_builtin; refine wp_appB (b := false) rfl _ _ rfl rfl rfl HOF.out rfl HC1.out HS1.out hG6 ?_)
        intro x1' w2 ho hg hn
        obtain ⟨G', hG'⟩ : ∃ G', G' = G ++ [false] := ⟨_, rfl⟩
        have hGl1 : G'.length = G.length + 1 := by rw [hG']; simp
        rw [← hG'] at ho
        replace hn : ∀ g, x1'.ownBlock = some g → (Value.slice B1 G.length d1).ownBlock = some g ∨ (wr.alloc (.cells #[.bool false] 4)).heap.size ≤ g := by simpa using hn
        have hp := (HMa.out.at_.pushF hg ho hn).2.trans HMa.out.at_.blk
        have HM2 := Lib.hid (HMa.out.pushF hg ho hn)
        have k1 : w2.cell? ⟨mb, 1, none⟩ = some (.slice B1 G.length d1) := by rw [cell_of_row w2 _ 1 _ _ _ hp]; rfl
        have k2 : w2.cell? ⟨mb, 2, none⟩ = some u2 := by rw [cell_of_row w2 _ 2 _ _ _ hp]; rfl
        have fr1 : w2.frozen? ⟨mb, 1, none⟩ = false := by simp [World.frozen?, hp]
        obtain ⟨E1, g1, q1⟩ := ho.slice
        subst q1
        subst b2
        obtain ⟨w3, hw3⟩ : ∃ w3, w3 = w2.setCell ⟨mb, 1, none⟩ (.slice E1 G'.length g1) := ⟨_, rfl⟩
        rw [← hw3] at HM2
        have HMb := Lib.hid (HM2.out.below (below_new (.cells #[.bool false] 4)))
        have HOC := Lib.hid (HM2.out.at_.c.below (below_new (.cells #[.bool false] 4)))
        have HC2 : Hid ((w3.alloc (.cells #[.bool false] 4)).cell? ⟨w3.heap.size, 0, none⟩ = some (.bool false)) := by show _ = _; simp [go_sem]
        have HS2 : Hid (B ≤ (w3.alloc (.cells #[.bool false] 4)).heap.size) := by show _ ≤ _; have := HM2.out.at_.lt; have := HM2.out.at_.base; simp; omega
        have hs3 : w3.heap.size = w2.heap.size := by rw [hw3]; simp [World.setCell]
        rw [hs3] at HC2
        rw [hw3] at HC2 HS2 HOC
        have HW3 := Lib.hid hw3
        have HGG := Lib.hid hG'
        have HGL1 := Lib.hid hGl1
        clear hp ho hg hn z0 z1 z2 z3 z4 HMa HOF HC1 HS1 hM hw3 hs3 hG' hGl1 HM2
        go_wp2_with (at_builtin; refine wp_appB (b := false) rfl _ _ rfl rfl rfl HOC.out rfl HC2.out HS2.out hD6 ?_)
        intro x2' w4 ho hg hn
        rw [← HW3.out] at hg
        obtain ⟨D', hD'⟩ : ∃ D', D' = D ++ [false] := ⟨_, rfl⟩
        rw [← hD'] at ho
        have hss : w2.heap.size + 1 = (w3.alloc (.cells #[.bool false] 4)).heap.size := by rw [HW3.out]; simp [World.setCell]
        rw [hss] at hn
        have hp := (HMb.out.at_.pushC hg ho hn).2.trans HMb.out.at_.blk
        have HM4 := Lib.hid (HMb.out.pushC hg ho hn)
        have k3 : w4.cell? ⟨mb, 2, none⟩ = some (.slice B2 D.length d2) := by rw [cell_of_row w4 _ 2 _ _ _ hp]; rfl
        have fr3 : w4.frozen? ⟨mb, 2, none⟩ = false := by simp [World.frozen?, hp]
        obtain ⟨E2, g2, q2⟩ := ho.slice
        subst q2
        have HDD := Lib.hid hD'
        clear hp ho hg hn hss hD' k1 k2 fr1 HMb HOC HC2 HS2
        go_wp2_with fail
        go_roundw
        case rel =>
          refine ⟨j + 1, .slice E1 G'.length g1, .slice E2 D'.length g2, by omega, ?_⟩
          have e1 : G' = F ++ List.replicate (j + 1) false := by rw [HGG.out, HG.out, rep_snoc]
          have e2 : D' = C ++ List.replicate (j + 1) false := by rw [HDD.out, HD.out, rep_snoc]
          rw [← e1, ← e2]
          exact HM4
        case measure =>
          have e1 := HM4.out.at_.mlen
          rw [e1, HLEN.out, HGL1.out, hGl'.out]
          omega
      · have hle : ¬ (G.length : Int) ≤ (n : Int) := by omega
        have f3 := hM.out.at_.free 3
        subst b1
        have hj' : n + 1 - F.length = j := by have := HF.out; omega
        have e1 : growL F n = G := by rw [HG.out]; unfold growL; rw [hj']
        have e2 : growL C n = D := by rw [HD.out]; unfold growL; rw [← HL.out, hj']
        have HE := Lib.hid e1
        have HE' := Lib.hid e2
        clear hG hD hlen hGl hDl x0 x1 x2 x3 x4 f4 hj' e1 e2
        go_wp2_with fail
        go_end0
        refine ⟨rfl, .slice B1 G.length d1, u2, ?_⟩
        rw [HE.out, HE'.out]
        exact hM.out.size n
  · have hsb : ((n : Int) != (size : Int)) = false := by rw [bne_eq_false_iff_eq]; omega
    have hfr : fresh = fr := by rw [HFR.out, decide_eq_true hs]; cases fresh <;> rfl
    have HM1 := HM
    rw [hfr] at HM1
    clear hs HFR hfr
    go_wp2_with fail

    go_loopw [] (fun wr => ∃ (j : Nat) (u1 u2 : Value), j ≤ n + 1 - F.length ∧ Hid (MStep B w1 mb tp v1 v2 u1 u2 (F ++ List.replicate j false) (C ++ List.replicate j false) size fr wr)) (fun wr => n + 1 - mlen mb wr)
    case atStart => exact ⟨0, v1, v2, Nat.zero_le _, Lib.hid (by simpa using HM1.out)⟩
    case round =>
      obtain ⟨j, u1, u2, hj, hM⟩ := hrel
      have hlen : mlen mb wr = F.length + j := by rw [hM.out.at_.mlen]; simp
      have HLEN := Lib.hid hlen
      obtain ⟨G, hG⟩ : ∃ G, G = F ++ List.replicate j false := ⟨_, rfl⟩
      obtain ⟨D, hD⟩ : ∃ D, D = C ++ List.replicate j false := ⟨_, rfl⟩
      have hGl : G.length = F.length + j := by rw [hG]; simp
      have hDl : D.length = F.length + j := by rw [hD]; simp [HL.out]
      rw [← hG, ← hD] at hM
      obtain ⟨z0, z1, z2, z3, z4⟩ := hM.out.at_.cells
      obtain ⟨B1, d1, b1⟩ := hM.out.at_.f.slice
      obtain ⟨B2, d2, b2⟩ := hM.out.at_.c.slice
      have HG := Lib.hid hG
      have HD := Lib.hid hD
      have hGl' := Lib.hid hGl
      have hDl' := Lib.hid hDl
      by_cases hlt : F.length + j ≤ n
      · have hle : (G.length : Int) ≤ (n : Int) := by omega
        have hB1 : B ≤ wr.heap.size := Nat.le_trans HB.out hM.out.fr.size
        have HOF := Lib.hid (hM.out.at_.f.below (below_new (.cells #[.bool false] 4)))
        have HMa := Lib.hid (hM.out.below (below_new (.cells #[.bool false] 4)))
        have hG6 : G.length ≤ 1000000 := by omega
        have hD6 : D.length ≤ 1000000 := by omega
        have HHF := Lib.hid HF.out
        subst b1
        clear hG hD hlen hGl hDl x0 x1 x2 x3 x4 f4
        have HC1 : Hid ((wr.alloc (.cells #[.bool false] 4)).cell? ⟨wr.heap.size, 0, none⟩ = some (.bool false)) := by show _ = _; simp [go_sem]
        have HS1 : Hid (B ≤ (wr.alloc (.cells #[.bool false] 4)).heap.size) := by show _ ≤ _; simp; omega
        go_wp2_with (at_builtin; refine wp_appB (b := false) rfl _ _ rfl rfl rfl HOF.out rfl HC1.out HS1.out hG6 ?_)
        intro x1' w2 ho hg hn
        obtain ⟨G', hG'⟩ : ∃ G', G' = G ++ [false] := ⟨_, rfl⟩
        have hGl1 : G'.length = G.length + 1 := by rw [hG']; simp
        rw [← hG'] at ho
        replace hn : ∀ g, x1'.ownBlock = some g → (Value.slice B1 G.length d1).ownBlock = some g ∨ (wr.alloc (.cells #[.bool false] 4)).heap.size ≤ g := by simpa using hn
        have hp := (HMa.out.at_.pushF hg ho hn).2.trans HMa.out.at_.blk
        have HM2 := Lib.hid (HMa.out.pushF hg ho hn)
        have k1 : w2.cell? ⟨mb, 1, none⟩ = some (.slice B1 G.length d1) := by rw [cell_of_row w2 _ 1 _ _ _ hp]; rfl
        have k2 : w2.cell? ⟨mb, 2, none⟩ = some u2 := by rw [cell_of_row w2 _ 2 _ _ _ hp]; rfl
        have fr1 : w2.frozen? ⟨mb, 1, none⟩ = false := by simp [World.frozen?, hp]
        obtain ⟨E1, g1, q1⟩ := ho.slice
        subst q1
        subst b2
        obtain ⟨w3, hw3⟩ : ∃ w3, w3 = w2.setCell ⟨mb, 1, none⟩ (.slice E1 G'.length g1) := ⟨_, rfl⟩
        rw [← hw3] at HM2
        have HMb := Lib.hid (HM2.out.below (below_new (.cells #[.bool false] 4)))
        have HOC := Lib.hid (HM2.out.at_.c.below (below_new (.cells #[.bool false] 4)))
        have HC2 : Hid ((w3.alloc (.cells #[.bool false] 4)).cell? ⟨w3.heap.size, 0, none⟩ = some (.bool false)) := by show _ = _; simp [go_sem]
        have HS2 : Hid (B ≤ (w3.alloc (.cells #[.bool false] 4)).heap.size) := by show _ ≤ _; have := HM2.out.at_.lt; have := HM2.out.at_.base; simp; omega
        have hs3 : w3.heap.size = w2.heap.size := by rw [hw3]; simp [World.setCell]
        rw [hs3] at HC2
        rw [hw3] at HC2 HS2 HOC
        have HW3 := Lib.hid hw3
        have HGG := Lib.hid hG'
        have HGL1 := Lib.hid hGl1
        clear hp ho hg hn z0 z1 z2 z3 z4 HMa HOF HC1 HS1 hM hw3 hs3 hG' hGl1 HM2
        go_wp2_with (at_builtin; refine wp_appB (b := false) rfl _ _ rfl rfl rfl HOC.out rfl HC2.out HS2.out hD6 ?_)
        intro x2' w4 ho hg hn
        rw [← HW3.out] at hg
        obtain ⟨D', hD'⟩ : ∃ D', D' = D ++ [false] := ⟨_, rfl⟩
        rw [← hD'] at ho
        have hss : w2.heap.size + 1 = (w3.alloc (.cells #[.bool false] 4)).heap.size := by rw [HW3.out]; simp [World.setCell]
        rw [hss] at hn
        have hp := (HMb.out.at_.pushC hg ho hn).2.trans HMb.out.at_.blk
        have HM4 := Lib.hid (HMb.out.pushC hg ho hn)
        have k3 : w4.cell? ⟨mb, 2, none⟩ = some (.slice B2 D.length d2) := by rw [cell_of_row w4 _ 2 _ _ _ hp]; rfl
        have fr3 : w4.frozen? ⟨mb, 2, none⟩ = false := by simp [World.frozen?, hp]
        obtain ⟨E2, g2, q2⟩ := ho.slice
        subst q2
        have HDD := Lib.hid hD'
        clear hp ho hg hn hss hD' k1 k2 fr1 HMb HOC HC2 HS2
        go_wp2_with fail
        go_roundw
        case rel =>
          refine ⟨j + 1, .slice E1 G'.length g1, .slice E2 D'.length g2, by omega, ?_⟩
          have e1 : G' = F ++ List.replicate (j + 1) false := by rw [HGG.out, HG.out, rep_snoc]
          have e2 : D' = C ++ List.replicate (j + 1) false := by rw [HDD.out, HD.out, rep_snoc]
          rw [← e1, ← e2]
          exact HM4
        case measure =>
          have e1 := HM4.out.at_.mlen
          rw [e1, HLEN.out, HGL1.out, hGl'.out]
          omega
      · have hle : ¬ (G.length : Int) ≤ (n : Int) := by omega
        have f3 := hM.out.at_.free 3
        subst b1
        have hj' : n + 1 - F.length = j := by have := HF.out; omega
        have e1 : growL F n = G := by rw [HG.out]; unfold growL; rw [hj']
        have e2 : growL C n = D := by rw [HD.out]; unfold growL; rw [← HL.out, hj']
        have HE := Lib.hid e1
        have HE' := Lib.hid e2
        clear hG hD hlen hGl hDl x0 x1 x2 x3 x4 f4 hj' e1 e2
        go_wp2_with fail
        go_end0
        refine ⟨rfl, .slice B1 G.length d1, u2, ?_⟩
        rw [HE.out, HE'.out]
        exact hM.out.size n
end Go.Proofs.YtmaedahleenlgaaDoor

/- know: the closure that sets; made; opened (layer 3). No condition. -/
set_option linter.unusedVariables false
set_option linter.unusedSimpArgs false
namespace Go.Proofs.YtmaedahleenlgaaDoor
open Go Go.RowKit

def setL (l : List Bool) (h : Int) : List Bool := if bget l h then l else bset l h
theorem setL_len (l : List Bool) (h : Int) : (setL l h).length = l.length := by unfold setL; split; rfl; exact bset_length l h
/-- A local bool. -/
def BoolAt (w : World) (g : Nat) (b : Bool) : Prop := w.heap[g]? = some (.cells #[.bool b] 4 (0, 0))
set_option maxHeartbeats 1600000 in
set_option maxRecDepth 100000 in
theorem set_any {B : Nat} (v : Value) (l : List Bool) (h : Int) (gc : Nat) (ch : Bool) (w : World) (hv : OwnB w B v l) (h0 : 0 ≤ h) (h1 : h < l.length) (hg : BoolAt w gc ch) (hne : v.ownBlock ≠ some gc) :
    Calls Tryd.prog 63 #[v, .int .i64 h, .pointer (some ⟨gc, 0, none⟩)] w fun e w' => e = .returned (.tuple #[]) ∧ OwnB w' B v (setL l h) ∧ BoolAt w' gc (ch || !bget l h) ∧ MFrm (fun k => v.ownBlock = some k ∨ k = gc) w w' ∧ w'.heap.size = w.heap.size := by
  obtain ⟨k, rfl⟩ : ∃ k : Nat, h = k := ⟨h.toNat, by omega⟩
  have hk : k < l.length := by omega
  obtain ⟨g, cap, rfl, hBg, hgs, hcp, hmx, hcell, hfree, hset⟩ := hv.form (by omega)
  have g1 := hcell k hk
  have f1 := hfree k
  have c1 : w.cell? ⟨gc, 0, none⟩ = some (.bool ch) := by rw [cell_of_row w _ 0 _ _ _ hg]; rfl
  have cf : w.frozen? ⟨gc, 0, none⟩ = false := by unfold BoolAt at hg; simp [World.frozen?, hg]
  have hgne : g ≠ gc := fun q => hne (by rw [q]; rfl)
  have HS := Lib.hid (hset k true hk)
  have HV := Lib.hid hv
  have HG := Lib.hid hg
  have HNE := Lib.hid hgne
  obtain ⟨b, hb⟩ : ∃ b, b = l.getD k false := ⟨_, rfl⟩
  have HBg : Hid (bget l (k : Int) = b) := by show _ = _; rw [hb]; unfold bget; rw [Int.toNat_natCast]
  rw [← hb] at g1
  have hki : (k : Int) < (l.length : Int) := by omega
  clear hcell hfree hset hv hg hne hb
  go_enter Tryd.func63, Tryd.ntmps63
  cases b with
  | true =>
    go_wp2_with fail
    go_end0
    refine ⟨rfl, ?_, ?_, .refl _ _, rfl⟩
    · unfold setL; rw [if_pos HBg.out]; exact HV.out
    · rw [HBg.out]; simpa using HG.out
  | false =>
    have hset : setL l (k : Int) = l.set k true := by unfold setL; rw [if_neg (by rw [HBg.out]; decide)]; unfold bset; rw [Int.toNat_natCast]
    have HSE := Lib.hid hset
    clear hset
    go_wp2_with fail
    go_end0
    refine ⟨rfl, ?_, ?_, ?_, ?_⟩
    · rw [HSE.out]
      exact HS.out.same fun q e => mblk_other _ _ (fun h => HNE.out (by simp [Value.ownBlock] at e; omega))
    · rw [HBg.out]
      have := mblk_set (i := 0) ((mblk_other w (i := k) (.bool true) (Ne.symm HNE.out)).trans HG.out) (.bool true)
      simpa [BoolAt] using this
    · exact (MFrm.set (S := fun i => (Value.slice (some ⟨g, 0, none⟩) l.length cap).ownBlock = some i ∨ i = gc) w ⟨g, k, none⟩ (.bool true) (.inl rfl)).trans (MFrm.set (S := fun i => i = gc) _ ⟨gc, 0, none⟩ (.bool true) rfl) fun i e => .inl (.inr e)
    · simp [World.setCell]
/-- l[s:] of terms: the walk's step. -/
theorem term_elem : Tryd.prog.elem 38 = 29 := by kernel_rfl
theorem term_slice : Tryd.prog.underlying 38 = some (.slice (Tryd.prog.elem 38)) := by rw [term_elem]; exact Tryd.underlying38
theorem term_sizeOf (w : World) : (Go.sizeOf (Tryd.prog.elem 38)).run Tryd.prog w = .ok 1 w := by
  obtain ⟨i, hi, hz0, hz1, hz2⟩ := info_parts info_term
  rw [term_elem]
  simp [sizeOf, typeInfo, hi, hz1]
theorem wp_cutT {B : Nat} {w : World} {ops : Array Oper} {rest : List Oper} {o : Oper} {a : Act} {Q : Exit → Act → World → Prop} (hgd : o.guard = none) (x lo : Operand) (ho : o.op = .slice 38 x (some lo) none none) {A : Option Addr} {n c : Nat} {xs : List Int} (hx : a.eval x = .slice A n c) {kl : IntKind} {S : Int} (hlo : a.eval lo = .int kl S) (s : Nat) (hS : S = s) (hs : s ≤ n) (hr : Rds B w .i64 A n c xs)
    (h : Rds B w .i64 (cutA A s c) (n - s) (c - s) (xs.drop s) → wpList Tryd.prog ops Q rest (a.put o.dst (.slice (cutA A s c) (n - s) (c - s))) w) : wpList Tryd.prog ops Q (o :: rest) a w := by
  subst hS
  refine wp_op hgd (v := .slice (cutA A s c) (n - s) (c - s)) ?_ (h (hr.cut hs))
  unfold execOp
  simp [ho, hx, hlo, run_sliceAt_slice (h := term_slice), run_slice_l (len := n) (cap := c) (a := A) (ht := term_slice) (kl := kl) (l := (s : Int)) (h0 := by omega) (h1 := by omega), term_sizeOf, Result.andThen, sliced, cutA]
/-- A row of bools that is only read. -/
theorem OwnB.at_ {w : World} {B : Nat} {v : Value} {l : List Bool} (h : OwnB w B v l) {p : Int} (h0 : 0 ≤ p) (h1 : p < l.length) : ∃ g cap, v = .slice (some ⟨g, 0, none⟩) l.length cap ∧ l.length ≤ cap ∧ w.cell? ⟨g, p.toNat, none⟩ = some (.bool (bget l p)) := by
  obtain ⟨g, cap, rfl, -, -, hc, -, hcell, -, -⟩ := h.form (by omega)
  exact ⟨g, cap, rfl, hc, hcell _ (by omega)⟩
def OpenedPost (l : List Int) (w : World) (e : Ending) (w' : World) : Prop := ∃ A c, e = .returned (.slice A l.length c) ∧ Rds 0 w' .i64 A l.length c l ∧ Below w.heap.size w w'
theorem OpenedPost.mk' {l : List Int} {w w' : World} {A : Option Addr} {n c : Nat} (h : Rds 0 w' .i64 A n c l) (hb : Below w.heap.size w w') : OpenedPost l w (.returned (.slice A n c)) w' := by
  have := h.len
  subst this
  exact ⟨A, c, rfl, h, hb⟩
set_option maxHeartbeats 1600000 in
set_option maxRecDepth 100000 in
theorem opened_any {B mb : Nat} {tp : Option Addr} {v1 v2 : Value} {F C : List Bool} {size : Nat} {fresh : Bool} (nd : Nd) (A : Option Addr) (c : Nat) (w : World) (hm : MindAt B w mb tp v1 v2 F C size fresh) (hr : Rds 0 w .i64 A nd.parts.length c nd.parts) (hk : nd.kind = 10 → nd.parts.length = 3 ∧ 1 ≤ nth nd.parts 0 ∧ nth nd.parts 0 < C.length) (h9 : nd.kind = 9 → nd.parts.length = 2) :
    Calls Tryd.prog 67 #[.pointer (some ⟨mb, 0, none⟩), .agg #[.int .i64 nd.kind, .string nd.text, .slice A nd.parts.length c]] w (OpenedPost (openedL C nd) w) := by
  obtain ⟨kd, tx, ps⟩ := nd
  simp only at hr hk h9 ⊢
  have hl : Hid (openedL C ⟨kd, tx, ps⟩ = if kd = 3 then ps else if kd = 9 then ps.drop 1 else if kd = 10 then (if bget C (nth ps 0) then ps.drop 2 else []) else []) := rfl
  obtain ⟨L, hL⟩ : ∃ L, L = openedL C ⟨kd, tx, ps⟩ := ⟨_, rfl⟩
  rw [← hL]
  have HL : Hid (L = if kd = 3 then ps else if kd = 9 then ps.drop 1 else if kd = 10 then (if bget C (nth ps 0) then ps.drop 2 else []) else []) := hL.trans hl.out
  obtain ⟨W, hW⟩ : ∃ W, W = w.alloc (.cells #[.int .i64 kd, .string tx, .slice A ps.length c] 40) := ⟨_, rfl⟩
  have HB : Hid (Below w.heap.size w W) := by rw [hW]; exact below_new _
  have HR := Lib.hid (hr.below HB.out)
  have HM := Lib.hid (hm.below HB.out)
  have n2 : W.cell? ⟨w.heap.size, 2, none⟩ = some (.slice A ps.length c) := by rw [hW]; simp [go_sem]
  have hcap := hr.cap
  clear hl hL hr hm
  go_enter Tryd.func67, Tryd.ntmps67
  by_cases k3 : kd = 3
  · have HN : Hid (L = ps) := by show _ = _; rw [HL.out, if_pos k3]
    have hb : (kd == 3) = true := by simp [k3]
    clear k3 hk h9
    go_wp2_with fail
    rw [← hW]
    go_ret
    rw [HN.out]
    exact OpenedPost.mk' HR.out HB.out
  have hb3 : (kd == 3) = false := by simp [k3]
  by_cases k9 : kd = 9
  · have HN : Hid (L = ps.drop 1) := by show _ = _; rw [HL.out, if_neg k3, if_pos k9]
    have hb : (kd == 9) = true := by simp [k9]
    have hp : 1 ≤ ps.length := by have := h9 k9; omega
    rw [hW] at HR
    clear k3 k9 hk h9
    go_wp2_with ((with_reducible show wpList _ _ _ (Oper.mk _ (Op.slice _ _ _ _ _) _ _ _ _ :: _) _ _); refine wp_cutT rfl _ _ rfl rfl rfl 1 rfl (by omega) HR.out ?_; intro hr2; have HR2 := Lib.hid hr2; clear hr2)
    rw [← hW] at HR2 ⊢
    go_ret
    rw [HN.out]
    exact OpenedPost.mk' HR2.out HB.out
  have hb9 : (kd == 9) = false := by simp [k9]
  by_cases k10 : kd = 10
  rotate_left
  · have HN : Hid (L = []) := by show _ = _; rw [HL.out, if_neg k3, if_neg k9, if_neg k10]
    have hb : (kd == 10) = false := by simp [k10]
    clear k3 k9 k10 hk h9
    go_wp2_with fail
    rw [← hW]
    go_ret
    rw [HN.out]
    exact OpenedPost.mk' (Rds.nil _ _ _) HB.out
  have hb10 : (kd == 10) = true := by simp [k10]
  obtain ⟨hp', hq0, hq1⟩ := hk k10
  have hp : 3 ≤ ps.length := by omega
  clear hp'
  obtain ⟨g, cap, e2, hgc, q1⟩ := HM.out.c.at_ (p := nth ps 0) (by omega) hq1
  obtain ⟨bA, oA, rfl, hcx⟩ := RdI.at_ HR.out.cell (by omega)
  have a0 := hcx 0 (by omega)
  rw [Nat.add_zero] at a0
  obtain ⟨p0, hp0⟩ : ∃ p : Nat, nth ps 0 = p := ⟨(nth ps 0).toNat, by omega⟩
  rw [hp0] at a0 q1
  rw [Int.toNat_natCast] at q1
  obtain ⟨b, hb⟩ : ∃ b, b = bget C (p0 : Int) := ⟨_, rfl⟩
  rw [← hb] at q1
  have HN : Hid (L = if b then ps.drop 2 else []) := by show _ = _; rw [HL.out, if_neg k3, if_neg k9, if_pos k10, hp0, ← hb]
  obtain ⟨-, -, m2, -, -⟩ := HM.out.cells
  rw [e2] at m2
  have hp0l : (p0 : Int) < (C.length : Int) := by omega
  have hpl : (0 : Int) < (ps.length : Int) := by omega
  clear k3 k9 k10 hk h9 hcx hb hp0 hq0 hq1 e2 HL
  go_wp2_with fail
  rw [← hW]
  clear hW
  go_region
  cases b with
  | true =>
    have HRd := Lib.hid (HR.out.drewN 1)
    go_wp2_with ((with_reducible show wpList _ _ _ (Oper.mk _ (Op.slice _ _ _ _ _) _ _ _ _ :: _) _ _); refine wp_cutT rfl _ _ rfl rfl rfl 2 rfl (by omega) HRd.out ?_; intro hr2; have HR2 := Lib.hid hr2; clear hr2)
    go_ret
    rw [HN.out]
    exact OpenedPost.mk' HR2.out (HB.out.drew)
  | false =>
    go_wp2_with fail
    go_ret
    rw [HN.out]
    exact OpenedPost.mk' (Rds.nil _ _ _) HB.out.drew

set_option maxHeartbeats 6400000 in
set_option maxRecDepth 100000 in
theorem made_any {B Bp mb : Nat} {tp : Option Addr} {v1 v2 vp : Value} {F C pub : List Bool} {size : Nat} {fresh : Bool} {T : List Nd} (h : Int) (nd : Nd) (A : Option Addr) (c : Nat) (w : World) (hw : WfT T) (hg : getT T h = some nd) (hm : MindAt B w mb tp v1 v2 F C size fresh) (hF : F.length = T.length + 1) (hC : C.length = T.length + 1) (hp : OwnB w Bp vp pub) (hP : pub.length = T.length + 1) (hr : Rds 0 w .i64 A nd.parts.length c nd.parts) :
    Calls Tryd.prog 66 #[.pointer (some ⟨mb, 0, none⟩), .int .i64 h, .agg #[.int .i64 nd.kind, .string nd.text, .slice A nd.parts.length c], vp] w fun e w' => e = .returned (.bool (madeB F C pub h nd)) ∧ Below w.heap.size w w' := by
  have hrg := getT_range hg
  have hT := hw.len
  have hgood := hw.get hg
  obtain ⟨W, hW⟩ : ∃ W, W = w.alloc (.cells #[.int .i64 nd.kind, .string nd.text, .slice A nd.parts.length c] 40) := ⟨_, rfl⟩
  have HB : Hid (Below w.heap.size w W) := by rw [hW]; exact below_new _
  have HR := Lib.hid (hr.below HB.out)
  have HM := Lib.hid (hm.below HB.out)
  have HP := Lib.hid (hp.below HB.out)
  obtain ⟨r, hrr⟩ : ∃ r, r = madeB F C pub h nd := ⟨_, rfl⟩
  rw [← hrr]
  have HRR : Hid (r = if bget F h = true ∨ nd.kind = 1 then true else if nd.kind = 2 then false else if nd.kind = 8 then (bget C (nth nd.parts 0) && (bget C (nth nd.parts 1) || bget pub (nth nd.parts 1))) || (bget C (nth nd.parts 1) && bget pub (nth nd.parts 0)) else nd.parts.all (bget C)) := hrr
  obtain ⟨h', rfl⟩ : ∃ n : Nat, h = n := ⟨h.toNat, by omega⟩
  obtain ⟨gF, capF, eF, hcF, qF⟩ := HM.out.f.at_ (p := (h' : Int)) (by omega) (by omega)
  rw [Int.toNat_natCast] at qF
  obtain ⟨bF, hbF⟩ : ∃ b, b = bget F (h' : Int) := ⟨_, rfl⟩
  rw [← hbF] at qF
  have HBF := Lib.hid hbF
  obtain ⟨-, m1, m2, -, -⟩ := HM.out.cells
  rw [eF] at m1
  have hFl : (h' : Int) < (F.length : Int) := by omega
  have n0 : W.cell? ⟨w.heap.size, 0, none⟩ = some (.int .i64 nd.kind) := by rw [hW]; simp [go_sem]
  have n2 : W.cell? ⟨w.heap.size, 2, none⟩ = some (.slice A nd.parts.length c) := by rw [hW]; simp [go_sem]
  obtain ⟨kd, tx, ps⟩ := nd
  simp only at n0 n2 HRR HR hgood hW hr ⊢
  have HGd := Lib.hid hgood
  clear hrr hr hm hp hbF hgood eF
  go_enter Tryd.func66, Tryd.ntmps66
  cases bF with
  | true =>
    have HN : Hid (r = true) := by show _ = _; rw [HRR.out, if_pos (.inl HBF.out.symm)]
    rw [hW] at m1 qF
    go_wp2_with fail
    rw [← hW]
    go_ret
    exact ⟨by rw [HN.out]; rfl, HB.out⟩
  | false =>
    have nF : ¬ (bget F (h' : Int) = true) := by rw [← HBF.out]; decide
    rw [hW] at m1 m2 qF n0 n2
    by_cases k1 : kd = 1
    · have HN : Hid (r = true) := by show _ = _; rw [HRR.out, if_pos (.inr k1)]
      have hb : (kd == 1) = true := by simp [k1]
      clear k1 nF
      go_wp2_with fail
      rw [← hW]
      go_ret
      exact ⟨by rw [HN.out]; rfl, HB.out⟩
    have hb1 : (kd == 1) = false := by simp [k1]
    by_cases k2 : kd = 2
    · have HN : Hid (r = false) := by show _ = _; rw [HRR.out, if_neg (by rintro (q | q); exact nF q; exact k1 q), if_pos k2]
      have hb : (kd == 2) = true := by simp [k2]
      clear k1 k2 nF
      go_wp2_with fail
      rw [← hW]
      go_ret
      exact ⟨by rw [HN.out]; rfl, HB.out⟩
    have hb2 : (kd == 2) = false := by simp [k2]
    by_cases k8 : kd = 8
    · have hps := (HGd.out.k8 k8).1
      simp only at hps
      have r0 := nth_range hw hg (i := 0) (by show 0 < ps.length; omega)
      have r1 := nth_range hw hg (i := 1) (by show 1 < ps.length; omega)
      simp only at r0 r1
      have HN : Hid (r = ((bget C (nth ps 0) && (bget C (nth ps 1) || bget pub (nth ps 1))) || (bget C (nth ps 1) && bget pub (nth ps 0)))) := by
        show _ = _; rw [HRR.out, if_neg (by rintro (q | q); exact nF q; exact k1 q), if_neg k2, if_pos k8]
      obtain ⟨x, hx⟩ : ∃ n : Nat, nth ps 0 = n := ⟨(nth ps 0).toNat, by omega⟩
      obtain ⟨y, hy⟩ : ∃ n : Nat, nth ps 1 = n := ⟨(nth ps 1).toNat, by omega⟩
      rw [hx, hy] at HN
      rw [hx] at r0
      rw [hy] at r1
      obtain ⟨gC, capC, eC, hcC, qx⟩ := HM.out.c.at_ (p := (x : Int)) (by omega) (by omega)
      obtain ⟨gC', capC', eC', -, qy⟩ := HM.out.c.at_ (p := (y : Int)) (by omega) (by omega)
      rw [eC] at eC'
      simp only [Value.slice.injEq, Option.some.injEq, Addr.mk.injEq, and_true, true_and] at eC'
      obtain ⟨rfl, rfl⟩ := eC'
      obtain ⟨gP, capP, eP, hcP, ux⟩ := HP.out.at_ (p := (x : Int)) (by omega) (by omega)
      obtain ⟨gP', capP', eP', -, uy⟩ := HP.out.at_ (p := (y : Int)) (by omega) (by omega)
      rw [eP] at eP'
      simp only [Value.slice.injEq, Option.some.injEq, Addr.mk.injEq, and_true, true_and] at eP'
      obtain ⟨rfl, rfl⟩ := eP'
      rw [Int.toNat_natCast] at qx qy ux uy
      obtain ⟨cx, hcx⟩ : ∃ b, b = bget C (x : Int) := ⟨_, rfl⟩
      obtain ⟨cy, hcy⟩ : ∃ b, b = bget C (y : Int) := ⟨_, rfl⟩
      obtain ⟨px, hpx⟩ : ∃ b, b = bget pub (x : Int) := ⟨_, rfl⟩
      obtain ⟨py, hpy⟩ : ∃ b, b = bget pub (y : Int) := ⟨_, rfl⟩
      rw [← hcx] at qx HN
      rw [← hcy] at qy HN
      rw [← hpx] at ux HN
      rw [← hpy] at uy HN
      obtain ⟨bA, oA, rfl, hcl⟩ := RdI.at_ HR.out.cell (by omega)
      have a0 := hcl 0 (by omega)
      have a1 := hcl 1 (by omega)
      rw [hx, Nat.add_zero] at a0
      rw [hy] at a1
      rw [eC] at m2
      have xl : (x : Int) < (C.length : Int) := by omega
      have yl : (y : Int) < (C.length : Int) := by omega
      have xp : (x : Int) < (pub.length : Int) := by omega
      have yp : (y : Int) < (pub.length : Int) := by omega
      have pl : (0 : Int) < (ps.length : Int) := by omega
      have pl1 : (1 : Int) < (ps.length : Int) := by omega
      have hb8 : (kd == 8) = true := by simp [k8]
      subst eP
      clear k1 k2 k8 nF hps r0 r1 hx hy eC hcx hcy hpx hpy hcl
      go_wp2_with fail
      rw [← hW] at m2 n2 ⊢
      clear hW m1 qF n0
      go_region
      have HBd : Hid (Below w.heap.size w W.drew) := HB.out.drew
      cases cx <;> cases cy <;> cases px <;> cases py
      all_goals
        go_wp2_with fail
        go_ret
        exact ⟨by rw [HN.out]; rfl, HBd.out⟩
    · have hb8 : (kd == 8) = false := by simp [k8]
      have HN : Hid (r = ps.all (bget C)) := by
        show _ = _; rw [HRR.out, if_neg (by rintro (q | q); exact nF q; exact k1 q), if_neg k2, if_neg k8]
      have hrng : ∀ i, i < ps.length → 1 ≤ nth ps i ∧ nth ps i ≤ T.length := fun i hi => nth_range hw hg (n := ⟨kd, tx, ps⟩) (i := i) hi
      have HRng := Lib.hid hrng
      have HPm : Hid (ps.length ≤ 16) := HGd.out.many
      have hpm := HPm.out
      obtain ⟨A2, c2, e2⟩ := HM.out.c.slice
      rw [e2] at m2
      have hpz : (0 : Int) ≤ (ps.length : Int) := by omega
      clear k1 k2 k8 nF hrng
      go_wp2_with fail
      rw [← hW] at m2 n2 ⊢
      clear hW m1 qF n0
      go_loop [80] (fun i => ∃ k : Nat, k ≤ ps.length ∧ i = .int .i64 k ∧ Hid (∀ j, j < k → bget C (nth ps j) = true)) (fun i => ps.length - (intOf i).toNat)
      case atStart => exact ⟨0, Nat.zero_le _, rfl, fun j hj => by omega⟩
      case round =>
        obtain ⟨k, hk, rfl, hq⟩ := hrel
        by_cases hlt : k < ps.length
        · obtain ⟨bA, oA, rfl, hcl⟩ := RdI.at_ HR.out.cell (by omega)
          have a0 := hcl k (by omega)
          have hr := HRng.out k hlt
          obtain ⟨x, hx⟩ : ∃ n : Nat, nth ps k = n := ⟨(nth ps k).toNat, by omega⟩
          rw [hx] at a0 hr
          obtain ⟨gC, capC, eC, hcC, qx⟩ := HM.out.c.at_ (p := (x : Int)) (by omega) (by omega)
          rw [e2] at eC
          simp only [Value.slice.injEq] at eC
          obtain ⟨rfl, -, rfl⟩ := eC
          rw [Int.toNat_natCast] at qx
          obtain ⟨cx, hcx⟩ : ∃ b, b = bget C (x : Int) := ⟨_, rfl⟩
          rw [← hcx] at qx
          have xl : (x : Int) < (C.length : Int) := by omega
          have HX := Lib.hid hx
          have HCX := Lib.hid hcx
          clear hcl hx hcx
          cases cx with
          | true =>
            go_wp2_with fail
            go_round
            case rel => exact ⟨k + 1, by omega, by go_num, Lib.hid fun j hj => by
              rcases Nat.lt_or_ge j k with q | q
              · exact hq.out j q
              · obtain rfl : j = k := by omega
                rw [HX.out]; exact HCX.out.symm⟩
            case measure => simp [intOf]; omega
          | false =>
            have hf : ps.all (bget C) = false := by
              rw [List.all_eq_false]
              exact ⟨nth ps k, nth_mem hlt, by rw [HX.out, ← HCX.out]; decide⟩
            have HFf := Lib.hid hf
            clear hf
            go_wp2_with fail
            go_ret
            exact ⟨by rw [HN.out, HFf.out]; rfl, HB.out⟩
        · have hf : ps.all (bget C) = true := by
            rw [List.all_eq_true]
            intro p hp
            obtain ⟨j, hj, rfl⟩ := List.getElem_of_mem hp
            have := hq.out j (by omega)
            rwa [show nth ps j = ps[j] from Option.some.inj ((nth_lt hj).symm.trans (List.getElem?_eq_getElem hj))] at this
          have HFf := Lib.hid hf
          obtain rfl : k = ps.length := by omega
          clear hf
          go_wp2_with fail
          go_ret
          exact ⟨by rw [HN.out, HFf.out]; rfl, HB.out⟩
end Go.Proofs.YtmaedahleenlgaaDoor

/- know.terms and its iterator (layer 3). No condition. -/
set_option linter.unusedVariables false
set_option linter.unusedSimpArgs false
namespace Go.Proofs.YtmaedahleenlgaaDoor
open Go Go.RowKit
attribute [local go_sem] Oper.semAt_some

/-- What a term's turn hands over: its number, the term, its parts' slice. -/
abbrev TItem := Int × Nd × Option Addr × Nat
def tEnc (x : TItem) : Array Value := #[.int .i64 x.1, .agg #[.int .i64 x.2.1.kind, .string x.2.1.text, .slice x.2.2.1 x.2.1.parts.length x.2.2.2]]
def tGd (T : List Nd) (k : Nat) (x : TItem) (W : World) : Prop := x.1 = (k : Int) + 1 ∧ T[k]? = some x.2.1 ∧ Rds 0 W .i64 x.2.2.1 x.2.1.parts.length x.2.2.2 x.2.1.parts
/-- What the iterator reads. -/
def tRd (B mb bx : Nat) (tp : Option Addr) (T : List Nd) (W : World) : Prop :=
  (∃ v1 v2 fr, W.heap[mb]? = some (.cells #[.pointer tp, v1, v2, .int .i64 T.length, .bool fr] 110 (0, 0))) ∧ TabAt B W tp T ∧ W.heap[bx]? = some (.cells #[.pointer (some ⟨mb, 0, none⟩)] 88 (0, 0))
set_option maxHeartbeats 800000 in
theorem terms_any (p : Option Addr) (w : World) : Calls Tryd.prog 65 #[.pointer p] w fun e w' => e = .returned (.func (.func 79) #[] #[.pointer (some ⟨w.heap.size, 0, none⟩)]) ∧ w' = w.alloc (.cells #[.pointer p] 88) := by
  go_enter Tryd.func65, Tryd.ntmps65
  go_wp2_with fail
  go_ret
  exact ⟨rfl, rfl⟩
set_option maxHeartbeats 3200000 in
set_option maxRecDepth 100000 in
theorem terms_gives {B mb bx : Nat} {tp : Option Addr} {T : List Nd} (m : Nat) (hT : T.length ≤ 65536) :
    Gives Tryd.prog 79 #[.pointer (some ⟨bx, 0, none⟩)] tEnc (tGd T) (tRd B mb bx tp T) T.length m := by
  intro l J W hJb hJR hY h0
  refine callsIn_of_wp Tryd.func79 rfl trivial ?_ rfl
  simp only [Tryd.ntmps79, List.size_toArray, List.length_cons, List.length_nil, Nat.reduceAdd, Nat.reduceSub, Array.replicate_succ, Array.replicate_zero, List.push_toArray, List.append_toArray, List.nil_append, List.cons_append]
  have HY := Lib.hid hY
  have HJb := Lib.hid hJb
  have HJR := Lib.hid hJR
  clear hY hJb hJR
  gi_wp2
  gi_loopw [3] (fun i wr => ∃ k : Nat, k ≤ T.length ∧ i = .int .i64 ((k : Int) + 1) ∧ J k wr) (fun i wr => T.length + 1 - (intOf i).toNat)
  case atStart => exact ⟨0, Nat.zero_le _, rfl, h0⟩
  case round =>
    obtain ⟨k, hk, rfl, hJ⟩ := hrel
    have HJ := Lib.hid hJ
    obtain ⟨⟨v1, v2, fr, hm⟩, ht, hb⟩ := HJR.out k wr hJ
    have m0 : wr.cell? ⟨mb, 0, none⟩ = some (.pointer tp) := by rw [cell_of_row wr _ 0 _ _ _ hm]; rfl
    have m3 : wr.cell? ⟨mb, 3, none⟩ = some (.int .i64 T.length) := by rw [cell_of_row wr _ 3 _ _ _ hm]; rfl
    have b0 : wr.cell? ⟨bx, 0, none⟩ = some (.pointer (some ⟨mb, 0, none⟩)) := by rw [cell_of_row wr _ 0 _ _ _ hb]; rfl
    clear hJ hm hb
    by_cases hlt : k < T.length
    · rcases ht with ⟨-, rfl⟩ | ⟨tb, rfl, ht⟩
      · simp at hlt
      obtain ⟨nd, hnd⟩ : ∃ nd, T[k]? = some nd := ⟨_, List.getElem?_eq_getElem hlt⟩
      have hle : (k : Int) + 1 ≤ (T.length : Int) := by omega
      have key := look_node ((k : Int) + 1) nd wr ht (by rw [getT_nat]; exact hnd)
      have HND := Lib.hid hnd
      clear ht hnd
      gi_wp2_with (refine ⟨trivial, ?_⟩; gi_at_call 16; refine (callsIn_wide.2 key).mono ?_; clear key; rintro e w1 ⟨A1, c1, rfl, ho, hb⟩)
      obtain ⟨W1, hW1⟩ : ∃ W1, W1 = w1.alloc (.cells #[.int .i64 nd.kind, .string nd.text, .slice A1 nd.parts.length c1] 40) := ⟨_, rfl⟩
      have hb1 : Below w1.heap.size w1 W1 := by rw [hW1]; exact below_new _
      have hJ1 := HJb.out k wr W1 HJ.out (below_next hb hb.size hb1)
      obtain ⟨fn, tmps, assign, body, hy, hR⟩ := HY.out k ((k : Int) + 1, nd, A1, c1) W1 hJ1 hlt ⟨rfl, HND.out, (ho.rds (B' := 0)).below hb1⟩
      simp only [tEnc] at hy
      rw [hW1] at hy hR
      clear ho hb hb1 hJ1 hW1
      rw [hy]
      gi_wp2
      refine hR.mono ?_
      rintro e W3 ⟨rfl, hJ3⟩
      have HJ3 := Lib.hid hJ3
      clear hJ3 hR hy
      gi_wp2
      go_roundw
      case rel => exact ⟨k + 1, by omega, by go_num, HJ3.out⟩
      case measure => simp [intOf]; omega
    · obtain rfl : k = T.length := by omega
      gi_wp2
      go_end0
      exact ⟨⟨_, rfl⟩, HJ.out⟩
end Go.Proofs.YtmaedahleenlgaaDoor

/- know.publics (layer 3). No condition. -/
set_option linter.unusedVariables false
set_option linter.unusedSimpArgs false
namespace Go.Proofs.YtmaedahleenlgaaDoor
open Go Go.RowKit
attribute [local go_sem] Oper.semAt_some

theorem lpO_sp : ∀ o, lpO o = true → spO o = true := by
  intro o h
  unfold lpO at h
  split at h <;> first | rfl | cases h
theorem lpO_tab : ∀ o, tabT o = true → lpO o = false := by
  intro o h
  unfold tabT at h
  split at h <;> first | rfl | cases h
theorem lpO_mnd : ∀ o, mndO o = true → lpO o = false := by
  intro o h
  unfold mndO at h
  split at h <;> first | rfl | cases h
theorem TabAt.lp {B B' : Nat} {w w' : World} {tp : Option Addr} {T : List Nd} (h : TabAt B w tp T) (hf : Frm lpO B' w w') (hB : B ≤ B') : TabAt B w' tp T := by
  rcases h with h | ⟨tb, e, ht⟩
  · exact .inl h
  · exact .inr ⟨tb, e, ht.frm hf hB lpO_tab lpO_sp⟩
theorem OwnB.lp {w w' : World} {B B' : Nat} {v : Value} {bs : List Bool} (h : OwnB w B v bs) (hf : Frm lpO B' w w') : OwnB w' B v bs := h.same fun g e => by
  obtain ⟨cur, hg⟩ := h.type g e
  rw [hg]; exact hf.block _ _ hg (.inr rfl)
theorem Rds.lp {B : Nat} {w w' : World} {k : IntKind} {A : Option Addr} {n c : Nat} {xs : List Int} (h : Rds B w k A n c xs) {B' : Nat} (hf : Frm lpO B' w w') (hB : B ≤ B') : Rds B w' k A n c xs := h.frm ((hf.weak hB).mono lpO_sp)
theorem cells_lp {w w' : World} {B g : Nat} {cs : Array Value} {t : TypeId} {fr : Nat × Nat} (h : w.heap[g]? = some (.cells cs t fr)) (hf : Frm lpO B w w') : w'.heap[g]? = some (.cells cs t fr) := hf.block _ _ h (.inr rfl)
/-- A step that turns cells alone leaves a loop's records. -/
theorem lp_of_mfrm {S : Nat → Prop} {w w' : World} (h : MFrm S w w') (hs : ∀ k o, S k → w.heap[k]? = some o → lpO o = false) : ∀ (k : Nat) (o : Obj), w.heap[k]? = some o → lpO o = true → w'.heap[k]? = some o :=
  fun k o hk ho => (h.block k (lt_of_get hk) fun q => by have := hs k o q hk; rw [ho] at this; cases this).trans hk
theorem lp_of_below {w w' : World} (h : Below w.heap.size w w') : ∀ (k : Nat) (o : Obj), w.heap[k]? = some o → lpO o = true → w'.heap[k]? = some o := fun k o hk _ => (h.block k (lt_of_get hk)).trans hk
/-- The local variable of a round: a term. -/
def NodeAt (W : World) (g : Nat) (nd : Nd) (A : Option Addr) (c : Nat) : Prop := W.heap[g]? = some (.cells #[.int .i64 nd.kind, .string nd.text, .slice A nd.parts.length c] 40 (0, 0)) ∧ Rds 0 W .i64 A nd.parts.length c nd.parts

theorem made_bools (n : Nat) : (madeCells (Value.bool false).cells (n * 1)).toList = (List.replicate n false).map Value.bool := by
  have hc : (Value.bool false).cells = #[.bool false] := rfl
  rw [Nat.mul_one, hc]
  apply List.ext_getElem?
  intro j
  by_cases hj : j < n
  · simp [madeCells, hj, Nat.mod_one]
  · simp [madeCells, hj]
theorem run_make_bools (base : Nat) (W : World) (n : Nat) (hn : n ≤ 1000000) (hb : base ≤ W.heap.size) :
    ∃ W', (Instr.makeSlice 108 (.int .i64 (n : Int)) (.int .i64 (n : Int))).run Tryd.prog W = .ok (.slice (some ⟨W.heap.size, 0, none⟩) n n) W' ∧ OwnB W' base (.slice (some ⟨W.heap.size, 0, none⟩) n n) (List.replicate n false) ∧ Below W.heap.size W W' := by
  obtain ⟨i, hi, hz, hs, hby⟩ := info_parts info_bool
  obtain ⟨W', h1, h2, h3⟩ := run_makeSlice_full (P := Tryd.prog) (w := W) base 108 4 i (.bool false) 1 Tryd.underlying108 hi hz hs .i64 .i64 n (by omega) (by rw [hby]; omega) (by simp only [maxLen]; omega) hb
  refine ⟨W', h1, ?_, ⟨h3.os, h3.tape, h3.output, h3.size, fun k hk => h3.block k hk (by simp)⟩⟩
  unfold OwnB
  rw [List.length_replicate, ← made_bools]
  exact h2

/-- What the loop of publics keeps. -/
structure PubI (B : Nat) (w : World) (mb : Nat) (tp : Option Addr) (v1 v2 : Value) (F C : List Bool) (T : List Nd) (fresh : Bool) (go bx : Nat) (vo : Value) (k : Nat) (W : World) : Prop where
  m : MindAt B W mb tp v1 v2 F C T.length fresh
  t : TabAt B W tp T
  x : W.heap[bx]? = some (.cells #[.pointer (some ⟨mb, 0, none⟩)] 88 (0, 0))
  bm : W.heap[w.heap.size]? = some (.cells #[.pointer (some ⟨mb, 0, none⟩)] 88 (0, 0))
  o : W.heap[go]? = some (.cells #[vo] 108 (0, 0))
  r : OwnB W w.heap.size vo (pubK T F (List.replicate (T.length + 1) false) k)
  bl : Below w.heap.size w W
theorem PubI.lp {B : Nat} {w : World} {mb : Nat} {tp : Option Addr} {v1 v2 : Value} {F C : List Bool} {T : List Nd} {fresh : Bool} {go bx : Nat} {vo : Value} {k : Nat} {W W' : World} (h : PubI B w mb tp v1 v2 F C T fresh go bx vo k W) {D : Nat} (hB : B ≤ D) (hD : w.heap.size ≤ D) (hf : Frm lpO D W W') : PubI B w mb tp v1 v2 F C T fresh go bx vo k W' :=
  ⟨h.m.frm hf lpO_mnd, h.t.lp hf hB, cells_lp h.x hf, cells_lp h.bm hf, cells_lp h.o hf, h.r.lp hf, h.bl.trans ((hf.weak hD).below h.bl.size)⟩
def termAx (T : List Nd) (f : Value → Value → Value → Value → Array Value) (k : Nat) (x : TItem) (a : Act) (W : World) : Prop :=
  x.1 = (k : Int) + 1 ∧ T[k]? = some x.2.1 ∧ ∃ g, NodeAt W g x.2.1 x.2.2.1 x.2.2.2 ∧ a = { tmps := f (.int .i64 x.1) (.pointer (some ⟨g, 0, none⟩)) (.int .i64 x.1) (.agg #[.int .i64 x.2.1.kind, .string x.2.1.text, .slice x.2.2.1 x.2.1.parts.length x.2.2.2]), defers := [] }
theorem termAx.lp {T : List Nd} {f : Value → Value → Value → Value → Array Value} {k : Nat} {x : TItem} {a : Act} {W W' : World} (h : termAx T f k x a W) {D : Nat} (hf : Frm lpO D W W') : termAx T f k x a W' := by
  obtain ⟨h1, h2, g, ⟨h3, h4⟩, h5⟩ := h
  exact ⟨h1, h2, g, ⟨cells_lp h3 hf, h4.lp hf (Nat.zero_le _)⟩, h5⟩
theorem gInfo (W : World) {P : Program} (f : Nat) : True := trivial

set_option maxHeartbeats 12800000 in
set_option maxRecDepth 100000 in
theorem publics_any {B mb : Nat} {tp : Option Addr} {v1 v2 : Value} {F C : List Bool} {fresh : Bool} {T : List Nd} (w : World) (hm : MindAt B w mb tp v1 v2 F C T.length fresh) (ht : TabAt B w tp T) (hF : F.length = T.length + 1) :
    Calls Tryd.prog 64 #[.pointer (some ⟨mb, 0, none⟩)] w fun e w' => ∃ v, e = .returned v ∧ OwnB w' w.heap.size v (pubL T F) ∧ Below w.heap.size w w' := by
  have hT := ht.wf.len
  have HW := Lib.hid ht.wf
  obtain ⟨W0, hW0⟩ : ∃ W0, W0 = w.alloc (.cells #[.pointer (some ⟨mb, 0, none⟩)] 88) := ⟨_, rfl⟩
  have HM := Lib.hid (hm.below (show Below w.heap.size w W0 by rw [hW0]; exact below_new _))
  have m3 := HM.out.cells.2.2.2.1
  have hml : mb < W0.heap.size := HM.out.lt
  rw [hW0] at m3
  have hmw : mb < w.heap.size := hm.lt
  have HMS : Hid (∀ k, mS mb v1 v2 k → k < w.heap.size) := fun k hk => (hm.sub k hk).2
  refine (callsIn_wide (n := 2)).1 ?_
  refine callsIn_of_wp_marks Tryd.func64 rfl trivial ?_ rfl
  simp only [Tryd.ntmps64, List.size_toArray, List.length_cons, List.length_nil, Nat.reduceAdd, Nat.reduceSub, Array.replicate_succ, Array.replicate_zero, List.push_toArray, List.append_toArray, List.nil_append, List.cons_append]
  obtain ⟨W1, hmk, hown, hb1⟩ := run_make_bools w.heap.size W0 (T.length + 1) (by omega) (by rw [hW0]; simp)
  have hsz0 : W0.heap.size = w.heap.size + 1 := by rw [hW0]; simp
  have HM1 := Lib.hid (HM.out.below hb1)
  have HO1 := Lib.hid hown
  have HB1 : Hid (Below w.heap.size w W1) := (show Below w.heap.size w W0 by rw [hW0]; exact below_new _).trans (hb1.mono (by omega))
  have HX1 : Hid (W1.heap[w.heap.size]? = some (.cells #[.pointer (some ⟨mb, 0, none⟩)] 88 (0, 0))) := (hb1.block _ (by omega)).trans (by rw [hW0]; exact heap_alloc_new w _)
  have HT1 := Lib.hid (ht.below HB1.out)
  rw [hsz0] at hmk HO1
  rw [hW0] at hmk
  have hmk' : (Instr.makeSlice 108 (.int .i64 ((T.length : Int) + 1)) (.int .i64 ((T.length : Int) + 1))).run Tryd.prog (w.alloc (.cells #[.pointer (some ⟨mb, 0, none⟩)] 88)) = .ok (.slice (some ⟨w.heap.size + 1, 0, none⟩) (T.length + 1) (T.length + 1)) W1 := hmk
  have HS1 : Hid (w.heap.size + 1 < W1.heap.size) := (HO1.out.lt _ rfl).2
  have x0 : W1.cell? ⟨w.heap.size, 0, none⟩ = some (.pointer (some ⟨mb, 0, none⟩)) := by rw [cell_of_row W1 _ 0 _ _ _ HX1.out]; rfl
  have lx : w.heap.size < W1.heap.size := lt_of_get HX1.out
  clear hmk hown hb1 hm ht
  gi_wp2_with (refine ⟨trivial, ?_⟩; gi_at_call 65; refine (callsIn_wide.2 (terms_any _ _)).mono ?_; rintro e w' ⟨rfl, rfl⟩)
  obtain ⟨W3, hW3⟩ : ∃ W3, W3 = (W1.alloc (.cells #[.slice (some ⟨w.heap.size + 1, 0, none⟩) (T.length + 1) (T.length + 1)] 108)).alloc (.cells #[.pointer (some ⟨mb, 0, none⟩)] 88) := ⟨_, rfl⟩
  have hb3 : Below W1.heap.size W1 W3 := by rw [hW3]; exact (below_new _).alloc (by simp) _
  have hs3 : W3.heap.size = W1.heap.size + 1 + 1 := by rw [hW3]; simp
  have hx3 : W3.heap[W1.heap.size + 1]? = some (.cells #[.pointer (some ⟨mb, 0, none⟩)] 88 (0, 0)) := by
    have := heap_alloc_new (W1.alloc (.cells #[.slice (some ⟨w.heap.size + 1, 0, none⟩) (T.length + 1) (T.length + 1)] 108)) (.cells #[.pointer (some ⟨mb, 0, none⟩)] 88)
    rw [World.size_alloc] at this
    rw [hW3]; exact this
  have ho3 : W3.heap[W1.heap.size]? = some (.cells #[.slice (some ⟨w.heap.size + 1, 0, none⟩) (T.length + 1) (T.length + 1)] 108 (0, 0)) := by
    rw [hW3]; exact (Below.heap_alloc _ _ _ (by simp)).trans (heap_alloc_new W1 _)
  have HI0 : Hid (PubI B w mb tp v1 v2 F C T fresh W1.heap.size (W1.heap.size + 1) (.slice (some ⟨w.heap.size + 1, 0, none⟩) (T.length + 1) (T.length + 1)) 0 W3) :=
    ⟨HM1.out.below hb3, HT1.out.below hb3, hx3, (hb3.block _ lx).trans HX1.out, ho3, HO1.out.below hb3, below_next HB1.out HB1.out.size hb3⟩
  have HBD : Hid (B ≤ W3.heap.size) := by show _ ≤ _; have := HM1.out.base; have := HM1.out.lt; omega
  have HWD : Hid (w.heap.size ≤ W3.heap.size) := HI0.out.bl.size
  rw [← hW3]
  clear hW3 hb3 hs3 hx3 ho3 HO1 HX1 HM1 HT1 HB1 x0 lx hmk' m3 hml hmw hsz0 hW0 HM
  refine range_gives (m := 0) (gf := 79) (lb := #[.pointer (some ⟨W1.heap.size + 1, 0, none⟩)]) rfl (enters_of Tryd.func79 (by kernel_rfl) rfl)
    (terms_gives (B := B) (mb := mb) (bx := W1.heap.size + 1) (tp := tp) (T := T) 0 hT) (fun x => rfl)
    (fun k W => PubI B w mb tp v1 v2 F C T fresh W1.heap.size (W1.heap.size + 1) (.slice (some ⟨w.heap.size + 1, 0, none⟩) (T.length + 1) (T.length + 1)) k W)
    (termAx T (fun s4 s5 s14 s15 => #[.pointer (some ⟨mb, 0, none⟩), .pointer (some ⟨w.heap.size, 0, none⟩), .slice none 0 0, .pointer (some ⟨W1.heap.size, 0, none⟩), s4, s5, .pointer (some ⟨mb, 0, none⟩), .pointer (some ⟨mb, 0, none⟩), .pointer (some ⟨mb, 3, none⟩), .int .i64 T.length, .int .i64 (T.length + 1), .slice (some ⟨w.heap.size + 1, 0, none⟩) (T.length + 1) (T.length + 1), .pointer (some ⟨mb, 0, none⟩), .func (.func 79) #[] #[.pointer (some ⟨W1.heap.size + 1, 0, none⟩)], s14, s15, undef, undef, undef, undef, undef, undef, undef, undef, undef, undef, undef, undef, undef, undef, undef, undef, undef, undef, undef]))
    (fun k W W' h hf => h.lp HBD.out HWD.out hf) (fun k x a W W' h hf => h.lp hf) (fun k W h => ⟨⟨_, _, _, h.m.blk⟩, h.t, h.x⟩) HI0.out ?assign ?body ?done
  case assign =>
    intro l k x W K hI hN hGd hK
    simp only [tEnc]
    gi_wp2
    exact hK _ _ (below_new _) ⟨hGd.1, hGd.2.1, W.heap.size, ⟨heap_alloc_new W _, hGd.2.2.below (below_new _)⟩, rfl⟩
  case body =>
    rintro l k ⟨h, nd, A, c⟩ a1 W hN hI ⟨hx1, hx2, g, ⟨hn1, hn2⟩, rfl⟩
    simp only at hx1 hx2 hn1 hn2 ⊢
    subst hx1
    have hmx : Tryd.prog.follows .mixedOrders = true := by kernel_rfl
    have HI := Lib.hid hI
    have hnd : nd = T[k] := by rw [List.getElem?_eq_getElem hN] at hx2; exact (Option.some.inj hx2).symm
    have hg : getT T ((k : Int) + 1) = some nd := by rw [getT_nat]; exact hx2
    have hgood := HW.out.get hg
    have n0 : W.cell? ⟨g, 0, none⟩ = some (.int .i64 nd.kind) := by rw [cell_of_row W _ 0 _ _ _ hn1]; rfl
    have n2 : W.cell? ⟨g, 2, none⟩ = some (.slice A nd.parts.length c) := by rw [cell_of_row W _ 2 _ _ _ hn1]; rfl
    have b0 : W.cell? ⟨w.heap.size, 0, none⟩ = some (.pointer (some ⟨mb, 0, none⟩)) := by rw [cell_of_row W _ 0 _ _ _ hI.bm]; rfl
    have m1 := hI.m.cells.2.1
    obtain ⟨gF, capF, eF, hcF, qF⟩ := hI.m.f.at_ (p := (k : Int) + 1) (by omega) (by omega)
    rw [eF] at m1
    rw [show ((k : Int) + 1).toNat = k + 1 from by omega] at qF
    obtain ⟨bF, hbF⟩ : ∃ b, b = bget F ((k : Int) + 1) := ⟨_, rfl⟩
    rw [← hbF] at qF
    have hFl : (k : Int) + 1 < (F.length : Int) := by omega
    have hFz : (0 : Int) ≤ (k : Int) + 1 := by omega
    have hFt : ((k : Int) + 1).toNat = k + 1 := by omega
    have hsucc : pubK T F (List.replicate (T.length + 1) false) (k + 1) = pubStep F (pubK T F (List.replicate (T.length + 1) false) k) ((k : Int) + 1) nd := by rw [pubK_succ hN, hnd]
    have HSC := Lib.hid hsucc
    have HBF := Lib.hid hbF
    have HND := Lib.hid hnd
    clear hsucc hbF hx2 hnd
    have skip_ : ¬ (nd.kind = 7 ∧ bget F ((k : Int) + 1) = true) → Hid (PubI B w mb tp v1 v2 F C T fresh W1.heap.size (W1.heap.size + 1) (.slice (some ⟨w.heap.size + 1, 0, none⟩) (T.length + 1) (T.length + 1)) (k + 1) W) := fun q =>
      ⟨HI.out.m, HI.out.t, HI.out.x, HI.out.bm, HI.out.o, by rw [HSC.out]; unfold pubStep; rw [if_neg q]; exact HI.out.r, HI.out.bl⟩
    by_cases k7 : nd.kind = 7
    rotate_left
    · have HK := skip_ fun q => k7 q.1
      have hb : (nd.kind == 7) = false := by simp [k7]
      clear skip_ k7 hI eF
      gi_wp2
      exact ⟨fun _ _ q _ => q, HK.out⟩
    have hb7 : (nd.kind == 7) = true := by simp [k7]
    cases bF with
    | false =>
      have HK := skip_ fun q => by rw [← HBF.out] at q; exact absurd q.2 (by decide)
      clear skip_ k7 hI eF
      gi_wp2
      exact ⟨fun _ _ q _ => q, HK.out⟩
    | true =>
      clear skip_
      have hp1 := (hgood.k7 k7).1
      have hr := nth_range HW.out hg (i := 0) (by omega)
      obtain ⟨x, hx⟩ : ∃ n : Nat, nth nd.parts 0 = n := ⟨(nth nd.parts 0).toNat, by omega⟩
      obtain ⟨bA, oA, rfl, hcl⟩ := RdI.at_ hn2.cell (by omega)
      have a0 := hcl 0 (by omega)
      rw [hx, Nat.add_zero] at a0
      rw [hx] at hr
      have hlen := (pubK_spec HW.out F (List.replicate (T.length + 1) false) (by simp) k (by omega)).1
      have hpl : (0 : Int) < (nd.parts.length : Int) := by omega
      obtain ⟨gz, capz, ez, -, hgz, -, -, hcell, hfree, hset⟩ := hI.r.form (by omega)
      simp only [Value.slice.injEq, Option.some.injEq, Addr.mk.injEq, and_true] at ez
      obtain ⟨rfl, -, -⟩ := ez
      have z0 := hcell x (by omega)
      have z1 := hfree x
      have HS := Lib.hid (hset x true (by omega))
      have o0 : W.cell? ⟨W1.heap.size, 0, none⟩ = some (.slice (some ⟨w.heap.size + 1, 0, none⟩) (T.length + 1) (T.length + 1)) := by rw [cell_of_row W _ 0 _ _ _ hI.o]; rfl
      have xl : (x : Int) < (T.length : Int) + 1 := by omega
      have HX := Lib.hid hx
      have HHR := Lib.hid hr
      have K7 := Lib.hid k7
      obtain ⟨cur, hty⟩ := hI.r.type _ rfl
      have HTY := Lib.hid hty
      have HNX : Hid (roundEnd (fun W W' => (∀ (k : Nat) (o : Obj), W.heap[k]? = some o → lpO o = true → W'.heap[k]? = some o) ∧ PubI B w mb tp v1 v2 F C T fresh W1.heap.size (W1.heap.size + 1) (.slice (some ⟨w.heap.size + 1, 0, none⟩) (T.length + 1) (T.length + 1)) (k + 1) W') W .normal { tmps := #[], defers := [] } (W.setCell ⟨w.heap.size + 1, x, none⟩ (.bool true)).drew) := by
        have hb : ∀ q, q ≠ w.heap.size + 1 → (W.setCell ⟨w.heap.size + 1, x, none⟩ (.bool true)).drew.heap[q]? = W.heap[q]? := fun q h => mblk_other W _ h
        have hsz : (W.setCell ⟨w.heap.size + 1, x, none⟩ (.bool true)).drew.heap.size = W.heap.size := by show (W.setCell ⟨w.heap.size + 1, x, none⟩ (.bool true)).heap.size = _; simp [World.setCell]
        have hs1 := HS1.out
        have hbd : B ≤ w.heap.size := by have h1 := HI.out.m.base; have h2 := HMS.out mb (.inl rfl); omega
        refine ⟨fun q o ho hl => ?_, ?_, ?_, (hb _ (by omega)).trans HI.out.x, (hb _ (by omega)).trans HI.out.bm, (hb _ (by omega)).trans HI.out.o, ?_, ?_⟩
        · rw [hb q (fun e => by subst e; rw [HTY.out] at ho; cases ho; cases hl)]; exact ho
        · exact HI.out.m.keep fun q hq => hb q (by have := HMS.out q hq; omega)
        · refine HI.out.t.mnd ⟨rfl, rfl, rfl, by rw [hsz]; exact Nat.le_refl _, fun q o hq hc => ?_⟩
          by_cases e : q = w.heap.size + 1
          · subst e
            rw [HTY.out] at hq
            cases hq
            rcases hc with hc | hc
            · omega
            · cases hc
          · exact (hb q e).trans hq
        · rw [HSC.out]
          unfold pubStep
          rw [if_pos ⟨K7.out, HBF.out.symm⟩]
          unfold bset
          rw [HX.out, Int.toNat_natCast]
          exact HS.out.same fun _ _ => rfl
        · exact ⟨HI.out.bl.os, HI.out.bl.tape, HI.out.bl.output, by rw [hsz]; exact HI.out.bl.size, fun q hq => (hb q (by omega)).trans (HI.out.bl.block q hq)⟩
      generalize (pubK T F (List.replicate (T.length + 1) false) k).getD x false = bz at z0
      clear hcl hcell hfree hset hx hp1 hr k7 eF hI hlen hgood hn2 hty
      gi_wp2
      gi_region_with_o (fail)
      all_goals gi_wp2
      all_goals exact HNX.out
  case done =>
    intro W hI hK
    have o0 : W.cell? ⟨W1.heap.size, 0, none⟩ = some (.slice (some ⟨w.heap.size + 1, 0, none⟩) (T.length + 1) (T.length + 1)) := by rw [cell_of_row W _ 0 _ _ _ hI.o]; rfl
    have HI := Lib.hid hI
    have HK := Lib.hid hK
    clear hI hK
    gi_wp2
    refine ⟨by simp, .inl ⟨_, _, rfl, run_takeDeferred HK.out, ?_⟩⟩
    have hf := frm_putLoop (.deferred none) HK.out rfl (Nat.le_refl _)
    have h2 := HI.out.lp HBD.out HWD.out hf
    refine ⟨.slice (some ⟨w.heap.size + 1, 0, none⟩) (T.length + 1) (T.length + 1), ?_, _, rfl, h2.r, h2.bl⟩
    exact results_tmp (fn := Tryd.f64) rfl _ _ _
end Go.Proofs.YtmaedahleenlgaaDoor

/- What the loops of know.look keep (layer 3). No condition. -/
set_option linter.unusedVariables false
set_option linter.unusedSimpArgs false
namespace Go.Proofs.YtmaedahleenlgaaDoor
open Go Go.RowKit

theorem exists_min (p : Nat → Prop) (h : ∃ n, p n) : ∃ n, p n ∧ ∀ m, p m → n ≤ m := by
  obtain ⟨n, hn⟩ := h
  induction n using Nat.strongRecOn with
  | _ n ih =>
    by_cases q : ∃ m, m < n ∧ p m
    · obtain ⟨m, hm, hp⟩ := q
      exact ih m hm hp
    · exact ⟨n, hn, fun m hm => Nat.not_lt.1 fun hl => q ⟨m, hl, hm⟩⟩
/-- A loop whose state the activation and the world do not tell. -/
theorem wpIn_loopG {F : Fence} {n : Nat} {P : Program} {c : Code} {Q : Exit → Act → World → Prop} {a : Act} {w : World} {α : Type} (I : α → Act → World → Prop) (μ : α → Nat) (x0 : α) (h0 : I x0 a w)
    (round : ∀ x a w, I x a w → c.wpIn F n P (Exit.then (fun a' w' => ∃ x', I x' a' w' ∧ μ x' < μ x) Q) a w) : (Code.loop c).wpIn F n P Q a w := by
  classical
  let p : Act → World → Nat → Prop := fun a w m => ∃ x, I x a w ∧ μ x = m
  let ν : Act → World → Nat := fun a w => if h : ∃ m, p a w m then Classical.choose (exists_min (p a w) h) else 0
  have hν : ∀ x a w, I x a w → ν a w ≤ μ x ∧ ∃ y, I y a w ∧ μ y = ν a w := by
    intro x a w h
    have hx : ∃ m, p a w m := ⟨_, x, h, rfl⟩
    have hs := Classical.choose_spec (exists_min (p a w) hx)
    have e : ν a w = Classical.choose (exists_min (p a w) hx) := dif_pos hx
    rw [e]
    exact ⟨hs.2 _ ⟨x, h, rfl⟩, hs.1⟩
  refine wpIn_loop (fun a w => ∃ x, I x a w) ν ⟨x0, h0⟩ fun a w ⟨x, hx⟩ => ?_
  obtain ⟨-, y, hy, e⟩ := hν x a w hx
  refine wpIn_mono (round y a w hy) ?_
  intro ex a' w' hq
  cases ex with
  | normal => obtain ⟨x', h1, h2⟩ := hq; exact ⟨⟨x', h1⟩, by have := (hν x' a' w' h1).1; omega⟩
  | _ => exact hq

theorem lpO_mndF : ∀ o, lpO o = true → mndO o = false := by
  intro o h
  unfold lpO at h
  split at h <;> first | rfl | cases h
/-- A step that turns a row of bools and a local bool. -/
theorem setFrm {B D : Nat} {u : Value} {F : List Bool} {ch : Bool} {W W' : World} (ho : OwnB W B u F) (hc : BoolAt W D ch) (hB : B ≤ D) (hf : MFrm (fun k => u.ownBlock = some k ∨ k = D) W W') : Frm mndO B W W' :=
  ⟨hf.os, hf.tape, hf.output, hf.size, fun k o hk hq => by
    refine (hf.block k (lt_of_get hk) fun q => ?_).trans hk
    have hb : B ≤ k := by rcases q with e | rfl; exact (ho.lt k e).1; exact hB
    rcases hq with hq | hq
    · omega
    · rcases q with e | rfl
      · obtain ⟨cur, hg⟩ := ho.type k e; rw [hk] at hg; cases hg; cases hq
      · unfold BoolAt at hc; rw [hk] at hc; cases hc; cases hq⟩
/-- A loop's own records stand. -/
def KeepLp (W W' : World) : Prop := ∀ (k : Nat) (o : Obj), W.heap[k]? = some o → lpO o = true → W'.heap[k]? = some o
theorem KeepLp.refl (W : World) : KeepLp W W := fun _ _ h _ => h
theorem KeepLp.trans {a b c : World} (h : KeepLp a b) (k : KeepLp b c) : KeepLp a c := fun i o hi hl => k i o (h i o hi hl) hl
theorem KeepLp.of_below {a b : World} (h : Below a.heap.size a b) : KeepLp a b := fun i o hi _ => (h.block i (lt_of_get hi)).trans hi
theorem KeepLp.of_mnd {B : Nat} {a b : World} (h : Frm mndO B a b) : KeepLp a b := fun i o hi hl => h.block i o hi (.inr (lpO_mndF o hl))

structure LookI (B : Nat) (w : World) (mb : Nat) (tp : Option Addr) (v1 v2 u1 u2 : Value) (T : List Nd) (D : Nat) (F C : List Bool) (ch : Bool) (W : World) : Prop where
  m : MStep B w mb tp v1 v2 u1 u2 F C T.length true W
  t : TabAt B W tp T
  x : W.heap[w.heap.size]? = some (.cells #[.pointer (some ⟨mb, 0, none⟩)] 88 (0, 0))
  c : BoolAt W D ch
  s : W.heap[D + 1]? = some (.cells #[.func (.func 63) #[] #[.pointer (some ⟨D, 0, none⟩)]] 117 (0, 0))
  ne : ∀ k, mS mb u1 u2 k → k ≠ w.heap.size ∧ k < D
  wD : w.heap.size < D
  sz : D + 1 < W.heap.size
  bw : B ≤ w.heap.size
theorem LookI.lp {B : Nat} {w : World} {mb : Nat} {tp : Option Addr} {v1 v2 u1 u2 : Value} {T : List Nd} {D : Nat} {F C : List Bool} {ch : Bool} {W W' : World} (h : LookI B w mb tp v1 v2 u1 u2 T D F C ch W) {D' : Nat} (hD : D + 2 ≤ D') (hf : Frm lpO D' W W') : LookI B w mb tp v1 v2 u1 u2 T D F C ch W' := by
  have h1 := h.wD
  have h2 := h.bw
  have h3 := h.sz
  have hb : Below w.heap.size W W' := (hf.weak (by omega)).below (by omega)
  exact ⟨⟨h.m.at_.frm hf lpO_mnd, ⟨hf.os.trans h.m.fr.os, hf.tape.trans h.m.fr.tape, hf.output.trans h.m.fr.output, Nat.le_trans h.m.fr.size hf.size, fun k hk hn => (hb.block k hk).trans (h.m.fr.block k hk hn)⟩, h.m.o1, h.m.o2⟩,
    h.t.lp hf (by omega), cells_lp h.x hf, cells_lp h.c hf, cells_lp h.s hf, h.ne, h.wD, Nat.lt_of_lt_of_le h.sz hf.size, h.bw⟩
theorem LookI.below {B : Nat} {w : World} {mb : Nat} {tp : Option Addr} {v1 v2 u1 u2 : Value} {T : List Nd} {D : Nat} {F C : List Bool} {ch : Bool} {W W' : World} (h : LookI B w mb tp v1 v2 u1 u2 T D F C ch W) (hb : Below W.heap.size W W') : LookI B w mb tp v1 v2 u1 u2 T D F C ch W' := h.lp (D' := W.heap.size) (by have := h.sz; omega) (.of_below hb)
theorem LookI.setF {B : Nat} {w : World} {mb : Nat} {tp : Option Addr} {v1 v2 u1 u2 : Value} {T : List Nd} {D : Nat} {F C F' : List Bool} {ch ch' : Bool} {W W' : World} (h : LookI B w mb tp v1 v2 u1 u2 T D F C ch W)
    (ho : OwnB W' B u1 F') (hc : BoolAt W' D ch') (hf : MFrm (fun k => u1.ownBlock = some k ∨ k = D) W W') : LookI B w mb tp v1 v2 u1 u2 T D F' C ch' W' := by
  have h1 := h.wD
  have h2 := h.bw
  have h3 := h.sz
  have hmb := h.ne mb (.inl rfl)
  have hm := h.m.at_
  have key : ∀ k o, W.heap[k]? = some o → u1.ownBlock ≠ some k → k ≠ D → W'.heap[k]? = some o := fun k o hk n1 n2 => (hf.block k (lt_of_get hk) fun q => q.elim n1 n2).trans hk
  refine ⟨⟨⟨key _ _ hm.blk (fun e => hm.ne.1 _ e rfl) (by omega), ho, hm.c.same fun g e => hf.block g (hm.c.lt g e).2 fun q => q.elim (fun q => hm.apart g q e) (fun q => by have := (h.ne g (.inr (.inr e))).2; omega), hm.apart, hm.base⟩, ?_, h.m.o1, h.m.o2⟩,
    h.t.mnd (setFrm hm.f h.c (by omega) hf), key _ _ h.x (fun e => (h.ne _ (.inr (.inl e))).1 rfl) (by omega), hc, key _ _ h.s (fun e => by have := (h.ne _ (.inr (.inl e))).2; omega) (by omega), h.ne, h.wD, Nat.lt_of_lt_of_le h.sz hf.size, h.bw⟩
  refine h.m.fr.trans hf fun i q => ?_
  rcases q with e | rfl
  · exact (h.m.o1 i e).imp (fun q => .inr (.inl q)) id
  · exact .inr (by omega)
theorem LookI.setC {B : Nat} {w : World} {mb : Nat} {tp : Option Addr} {v1 v2 u1 u2 : Value} {T : List Nd} {D : Nat} {F C C' : List Bool} {ch ch' : Bool} {W W' : World} (h : LookI B w mb tp v1 v2 u1 u2 T D F C ch W)
    (ho : OwnB W' B u2 C') (hc : BoolAt W' D ch') (hf : MFrm (fun k => u2.ownBlock = some k ∨ k = D) W W') : LookI B w mb tp v1 v2 u1 u2 T D F C' ch' W' := by
  have h1 := h.wD
  have h2 := h.bw
  have h3 := h.sz
  have hmb := h.ne mb (.inl rfl)
  have hm := h.m.at_
  have key : ∀ k o, W.heap[k]? = some o → u2.ownBlock ≠ some k → k ≠ D → W'.heap[k]? = some o := fun k o hk n1 n2 => (hf.block k (lt_of_get hk) fun q => q.elim n1 n2).trans hk
  refine ⟨⟨⟨key _ _ hm.blk (fun e => hm.ne.2 _ e rfl) (by omega), hm.f.same fun g e => hf.block g (hm.f.lt g e).2 fun q => q.elim (fun q => hm.apart g e q) (fun q => by have := (h.ne g (.inr (.inl e))).2; omega), ho, hm.apart, hm.base⟩, ?_, h.m.o1, h.m.o2⟩,
    h.t.mnd (setFrm hm.c h.c (by omega) hf), key _ _ h.x (fun e => (h.ne _ (.inr (.inr e))).1 rfl) (by omega), hc, key _ _ h.s (fun e => by have := (h.ne _ (.inr (.inr e))).2; omega) (by omega), h.ne, h.wD, Nat.lt_of_lt_of_le h.sz hf.size, h.bw⟩
  refine h.m.fr.trans hf fun i q => ?_
  rcases q with e | rfl
  · exact (h.m.o2 i e).imp (fun q => .inr (.inr q)) id
  · exact .inr (by omega)
theorem LookI.setCh {B : Nat} {w : World} {mb : Nat} {tp : Option Addr} {v1 v2 u1 u2 : Value} {T : List Nd} {D : Nat} {F C : List Bool} {ch : Bool} {W : World} (h : LookI B w mb tp v1 v2 u1 u2 T D F C ch W) (b : Bool) : LookI B w mb tp v1 v2 u1 u2 T D F C b (W.setCell ⟨D, 0, none⟩ (.bool b)) := by
  refine h.setF (h.m.at_.f.same fun g e => mblk_other _ _ (by have := (h.ne g (.inr (.inl e))).2; omega)) ?_ (.set _ _ _ (.inr rfl))
  have := mblk_set (i := 0) h.c (.bool b)
  simpa [BoolAt] using this

theorem setF_eq (s : KS) (p : Int) : setF s p = ⟨setL s.F p, s.C, s.ch || !bget s.F p⟩ := by
  unfold setF setL
  cases bget s.F p <;> simp
theorem setC_eq (s : KS) (p : Int) : setC s p = ⟨s.F, setL s.C p, s.ch || !bget s.C p⟩ := by
  unfold setC setL
  cases bget s.C p <;> simp

/-- What a pass keeps. -/
structure LookR (B : Nat) (w : World) (mb : Nat) (tp : Option Addr) (v1 v2 u1 u2 : Value) (T : List Nd) (D gp b2 : Nat) (vp : Value) (pub : List Bool) (s : KS) (W : World) : Prop where
  l : LookI B w mb tp v1 v2 u1 u2 T D s.F s.C s.ch W
  p : W.heap[gp]? = some (.cells #[vp] 108 (0, 0))
  r : OwnB W (D + 2) vp pub
  y : W.heap[b2]? = some (.cells #[.pointer (some ⟨mb, 0, none⟩)] 88 (0, 0))
  gD : D + 2 ≤ gp
  bD : D + 2 ≤ b2
theorem LookR.lp {B : Nat} {w : World} {mb : Nat} {tp : Option Addr} {v1 v2 u1 u2 : Value} {T : List Nd} {D gp b2 : Nat} {vp : Value} {pub : List Bool} {s : KS} {W W' : World} (h : LookR B w mb tp v1 v2 u1 u2 T D gp b2 vp pub s W) {D' : Nat} (hD : D + 2 ≤ D') (hf : Frm lpO D' W W') : LookR B w mb tp v1 v2 u1 u2 T D gp b2 vp pub s W' :=
  ⟨h.l.lp hD hf, cells_lp h.p hf, h.r.lp hf, cells_lp h.y hf, h.gD, h.bD⟩
theorem LookR.below {B : Nat} {w : World} {mb : Nat} {tp : Option Addr} {v1 v2 u1 u2 : Value} {T : List Nd} {D gp b2 : Nat} {vp : Value} {pub : List Bool} {s : KS} {W W' : World} (h : LookR B w mb tp v1 v2 u1 u2 T D gp b2 vp pub s W) (hb : Below W.heap.size W W') : LookR B w mb tp v1 v2 u1 u2 T D gp b2 vp pub s W' := h.lp (D' := W.heap.size) (by have := h.l.sz; omega) (.of_below hb)
theorem LookR.setF {B : Nat} {w : World} {mb : Nat} {tp : Option Addr} {v1 v2 u1 u2 : Value} {T : List Nd} {D gp b2 : Nat} {vp : Value} {pub : List Bool} {s : KS} {W W' : World} (h : LookR B w mb tp v1 v2 u1 u2 T D gp b2 vp pub s W) {p : Int}
    (ho : OwnB W' B u1 (setL s.F p)) (hc : BoolAt W' D (s.ch || !bget s.F p)) (hf : MFrm (fun k => u1.ownBlock = some k ∨ k = D) W W') : LookR B w mb tp v1 v2 u1 u2 T D gp b2 vp pub (Go.Proofs.YtmaedahleenlgaaDoor.setF s p) W' := by
  have key : ∀ k, D + 2 ≤ k → k < W.heap.size → W'.heap[k]? = W.heap[k]? := fun k hk hs => hf.block k hs fun q => q.elim (fun e => by have := (h.l.ne k (.inr (.inl e))).2; omega) (by omega)
  rw [setF_eq]
  exact ⟨h.l.setF ho hc hf, (key _ h.gD (lt_of_get h.p)).trans h.p, h.r.same fun g e => key g (h.r.lt g e).1 (h.r.lt g e).2, (key _ h.bD (lt_of_get h.y)).trans h.y, h.gD, h.bD⟩
theorem LookR.setC {B : Nat} {w : World} {mb : Nat} {tp : Option Addr} {v1 v2 u1 u2 : Value} {T : List Nd} {D gp b2 : Nat} {vp : Value} {pub : List Bool} {s : KS} {W W' : World} (h : LookR B w mb tp v1 v2 u1 u2 T D gp b2 vp pub s W) {p : Int}
    (ho : OwnB W' B u2 (setL s.C p)) (hc : BoolAt W' D (s.ch || !bget s.C p)) (hf : MFrm (fun k => u2.ownBlock = some k ∨ k = D) W W') : LookR B w mb tp v1 v2 u1 u2 T D gp b2 vp pub (Go.Proofs.YtmaedahleenlgaaDoor.setC s p) W' := by
  have key : ∀ k, D + 2 ≤ k → k < W.heap.size → W'.heap[k]? = W.heap[k]? := fun k hk hs => hf.block k hs fun q => q.elim (fun e => by have := (h.l.ne k (.inr (.inr e))).2; omega) (by omega)
  rw [setC_eq]
  exact ⟨h.l.setC ho hc hf, (key _ h.gD (lt_of_get h.p)).trans h.p, h.r.same fun g e => key g (h.r.lt g e).1 (h.r.lt g e).2, (key _ h.bD (lt_of_get h.y)).trans h.y, h.gD, h.bD⟩
theorem LookR.frmF {B : Nat} {w : World} {mb : Nat} {tp : Option Addr} {v1 v2 u1 u2 : Value} {T : List Nd} {D gp b2 : Nat} {vp : Value} {pub : List Bool} {s : KS} {W W' : World} (h : LookR B w mb tp v1 v2 u1 u2 T D gp b2 vp pub s W) (hf : MFrm (fun k => u1.ownBlock = some k ∨ k = D) W W') : Frm mndO B W W' := setFrm h.l.m.at_.f h.l.c (by have := h.l.bw; have := h.l.wD; omega) hf
theorem LookR.frmC {B : Nat} {w : World} {mb : Nat} {tp : Option Addr} {v1 v2 u1 u2 : Value} {T : List Nd} {D gp b2 : Nat} {vp : Value} {pub : List Bool} {s : KS} {W W' : World} (h : LookR B w mb tp v1 v2 u1 u2 T D gp b2 vp pub s W) (hf : MFrm (fun k => u2.ownBlock = some k ∨ k = D) W W') : Frm mndO B W W' := setFrm h.l.m.at_.c h.l.c (by have := h.l.bw; have := h.l.wD; omega) hf
theorem NodeAt.mnd {B : Nat} {W W' : World} {g : Nat} {nd : Nd} {A : Option Addr} {c : Nat} (h : NodeAt W g nd A c) (hf : Frm mndO B W W') : NodeAt W' g nd A c :=
  ⟨hf.block _ _ h.1 (.inr rfl), h.2.frm ((hf.weak (Nat.zero_le _)).mono mndO_sp)⟩
theorem NodeAt.below {W W' : World} {g : Nat} {nd : Nd} {A : Option Addr} {c : Nat} (h : NodeAt W g nd A c) (hb : Below W.heap.size W W') : NodeAt W' g nd A c :=
  ⟨(hb.block _ (lt_of_get h.1)).trans h.1, h.2.below hb⟩
theorem Rds.mnd0 {B : Nat} {W W' : World} {A : Option Addr} {n c : Nat} {xs : List Int} (h : Rds 0 W .i64 A n c xs) (hf : Frm mndO B W W') : Rds 0 W' .i64 A n c xs := h.frm ((hf.weak (Nat.zero_le _)).mono mndO_sp)

/-- The marks that a loop's rounds leave on the activation's deferred calls, taken one by one. -/
theorem leaves_marks {F : Fence} {n : Nat} {P : Program} {fn : Func} {tmps : Array Value} {R : Ending → World → Prop} (lo : Nat) (J : World → Prop) (hJ : ∀ W r, J W → lo ≤ r → W.heap[r]? = some (.deferred (some [])) → J (W.putObj r (.deferred none)))
    (hend : ∀ W, J W → LeavesIn F n P fn tmps R [] .returning W) : ∀ (rs : List Nat) (W : World), rs.Nodup → (∀ r ∈ rs, lo ≤ r ∧ W.heap[r]? = some (.deferred (some []))) → J W → LeavesInM F n P fn tmps R (rs.map fun r => { target := .collected r, args := #[] }) .returning W
  | [], W, _, _, h => hend W h
  | r :: rs, W, hn, hr, h => by
    have h0 := hr r (List.mem_cons_self ..)
    rw [List.nodup_cons] at hn
    refine ⟨by simp, .inl ⟨_, _, rfl, run_takeDeferred h0.2, ?_⟩⟩
    exact leaves_marks lo J hJ hend rs _ hn.2 (fun q hq => ⟨(hr q (List.mem_cons_of_mem _ hq)).1, (World.putObj_heap_other (fun e => hn.1 (by rw [← e]; exact hq))).trans (hr q (List.mem_cons_of_mem _ hq)).2⟩) (hJ W r h h0.1 h0.2)
end Go.Proofs.YtmaedahleenlgaaDoor
