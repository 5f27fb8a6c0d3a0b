/- Appending to a row of bools; know.grow (layer 3). No condition. -/
import Derived.Test.YtomopjpfdmpgpaaKnow1
import Derived.Test.YtomopjpfdmpgpaaLater
set_option linter.unusedVariables false
set_option linter.unusedSimpArgs false
namespace Go.Proofs.Ytomopjpfdmpgpaa
open Go Go.RowKit

theorem bools_oneCell (bs : List Bool) : ∀ u ∈ bs.map Value.bool, u.oneCell' = true := by
  intro u hu
  obtain ⟨b, -, rfl⟩ := List.mem_map.1 hu
  rfl
/-- append(s, b) for a row of bools of the call's own: the row stays where it is, or lies in a new block. -/
theorem run_appB {w : World} {B : Nat} {v : Value} {bs : List Bool} {ty : Nat} (hown : OwnB w B v bs) (b : Bool) {ad : Addr} {m c : Nat} (hm : m = 1) (hc : w.cell? ad = some (.bool b)) (hB : B ≤ w.heap.size) (hn : bs.length ≤ 1000000) :
    ∃ v' w', (Builtin.append_ #[117, 117] ty #[v, .slice (some ad) m c]).run Try.prog w = .ok v' w' ∧ OwnB w' B v' (bs ++ [b]) ∧ w.grownBy w' v.ownBlock ∧ (∀ g, v'.ownBlock = some g → v.ownBlock = some g ∨ w.heap.size ≤ g) := by
  subst hm
  obtain ⟨i, hi, hz, hs, hby⟩ := info_parts info_bool
  have ht := Try.underlying117
  have hl : ([Value.bool b]).length = 1 * i.size := by rw [hs]; rfl
  have hadd : ad.add 0 = ad := by unfold Addr.add; split <;> simp_all
  have hnews : ∀ j u, ([Value.bool b])[j]? = some u → w.cell? (ad.add j) = some u := by
    intro j u hu
    match j, hu with
    | 0, hu => simp at hu; subst hu; rw [hadd]; exact hc
  have grown : ∀ (old : Nat), old < bs.length + 1 → ∀ (row : Option Nat) (W : World), W = (w.drew.alloc (.cells ((bs.map Value.bool).toArray ++ #[Value.bool b] ++ Builtin.zeroCells (Value.bool false).cells (grownCap w (bs.length + 1) old 4 - (bs.length + 1))) 4)) →
      OwnB W B (.slice (some ⟨w.heap.size, 0, none⟩) (bs.length + 1) (grownCap w (bs.length + 1) old 4)) (bs ++ [b]) ∧ w.grownBy W row := by
    intro old ho row W hW
    have hge := grownCap_ge w (bs.length + 1) old 4
    have hcm : grownCap w (bs.length + 1) old 4 ≤ maxLen := grownCap_le_maxLen w (bs.length + 1) old 4 (by simp only [maxLen]; omega)
    subst hW
    refine ⟨⟨by simp, .inr ⟨w.heap.size, _, _, by simp, hB, heap_alloc_new w.drew _, by simp; omega, hcm, ?_, ?_⟩⟩, ⟨rfl, rfl, rfl, by simp, fun q hq _ => (Array.getElem?_push_lt hq).trans (Array.getElem?_eq_getElem hq).symm⟩⟩
    · have hz1 : (Value.bool false).cells.size = 1 := rfl
      simp only [Array.size_append, List.size_toArray, List.length_map, size_zeroCells, hz1]
      simp
      omega
    · simp only [Array.toList_append, List.append_assoc, List.map_append]
      rw [← List.append_assoc]
      have : (bs ++ [b]).length * 1 = (bs.map Value.bool ++ [Value.bool b]).length := by simp
      rw [this]
      exact List.take_left
  rcases hown.2 with ⟨rfl, hn0⟩ | ⟨g, cap, cur, rfl, hb, hg, hnc, hcm, hcs, htake⟩
  · have hb0 : bs = [] := List.eq_nil_of_length_eq_zero hn0
    subst hb0
    have hrun := run_append_nil (P := Try.prog) w 117 ty 4 i (.bool false) ht hi hz ad 1 c [.bool b] hl hnews (by omega) (by omega) (by rw [hby]; omega)
    have hgr := grown 0 (by simp) (Value.ownBlock (.slice none 0 0)) _ rfl
    simp only [List.length_nil, Nat.zero_add, List.map_nil, List.nil_append, Array.empty_append] at hgr
    exact ⟨_, _, hrun, hgr.1, hgr.2, fun g e => .inr (by simp [Value.ownBlock] at e; omega)⟩
  · by_cases hroom : bs.length + 1 ≤ cap
    · have hrun := run_app_room (P := Try.prog) 117 ty 4 i ht hi hs g bs.length cap cur 4 hg ad 1 c [.bool b] rfl hnews (by intro u hu; simp at hu; subst hu; rfl) hroom (by omega)
      refine ⟨_, _, hrun, ⟨by simp, .inr ⟨g, cap, _, by simp, hb, setRow_heap w g cur _ 4 _ hg, by simp; omega, hcm, ?_, ?_⟩⟩, ⟨rfl, rfl, rfl, by simp, fun q _ hq => setRow_other w g q _ (fun e => hq (by simp [Value.ownBlock, e]))⟩, fun g' e => .inl (by simpa [Value.ownBlock] using e)⟩
      · simp only [List.size_toArray, List.length_append, List.length_take, List.length_drop, Array.length_toList, List.length_singleton]
        omega
      · have e1 : cur.toList.take bs.length = bs.map Value.bool := by rw [Nat.mul_one] at htake; exact htake
        rw [e1]
        simp only [List.map_append]
        have : (bs ++ [b]).length * 1 = (bs.map Value.bool ++ [Value.bool b]).length := by simp
        rw [this]
        exact List.take_left
    · have holds : ∀ j u, (bs.map Value.bool)[j]? = some u → w.cell? ((⟨g, 0, none⟩ : Addr).add j) = some u := by
        intro j u hu
        have e1 : cur.toList.take bs.length = bs.map Value.bool := by rw [Nat.mul_one] at htake; exact htake
        rw [← e1, List.getElem?_take] at hu
        split at hu
        · rw [addr_add, Nat.zero_add, cell_of_row w g j cur 4 (0, 0) hg]; simpa using hu
        · cases hu
      have hrun := run_append_grow (P := Try.prog) w 117 ty 4 i (.bool false) ht hi hz ⟨g, 0, none⟩ bs.length cap (bs.map Value.bool) (by rw [hs]; simp) holds ad 1 c [.bool b] hl hnews (by omega) (by omega) (growslice_fits (by omega) (by rw [hby]; omega))
      have hgr := grown cap (by omega) (Value.ownBlock (.slice (some ⟨g, 0, none⟩) bs.length cap)) _ rfl
      exact ⟨_, _, hrun, hgr.1, hgr.2, fun g' e => .inr (by simp [Value.ownBlock] at e; omega)⟩
theorem wp_appB {w : World} {ops : Array Oper} {rest : List Oper} {o : Oper} {a : Act} {Q : Exit → Act → World → Prop} (hgd : o.guard = none) (s x : Operand)
    (ho : o.op = .call { callee := .builtin .append, args := #[s, x], argTypes := #[117, 117] })
    {B : Nat} {v : Value} {bs : List Bool} {b : Bool} {ad : Addr} {m c : Nat} (hv : a.eval s = v) (hx : a.eval x = .slice (some ad) m c) (hown : OwnB w B v bs) (hm : m = 1) (hc : w.cell? ad = some (.bool b)) (hB : B ≤ w.heap.size) (hn : bs.length ≤ 1000000)
    (h : ∀ v' w', OwnB w' B v' (bs ++ [b]) → w.grownBy w' v.ownBlock → (∀ g, v'.ownBlock = some g → v.ownBlock = some g ∨ w.heap.size ≤ g) → wpList Try.prog ops Q rest (a.put o.dst v') w') : wpList Try.prog ops Q (o :: rest) a w := by
  obtain ⟨v', w', hrun, h1, h2, h3⟩ := run_appB (ty := o.type) hown b hm hc hB hn (c := c)
  exact wp_app_run hgd s x _ _ ho hv hx hrun (h v' w' h1 h2 h3)

/-- A row's room for all terms. -/
def growL (l : List Bool) (n : Nat) : List Bool := l ++ List.replicate (n + 1 - l.length) false
theorem growL_len {l : List Bool} {n : Nat} (h : l.length ≤ n + 1) : (growL l n).length = n + 1 := by simp [growL]; omega
theorem bget_growL (l : List Bool) (n : Nat) (h : Int) : bget (growL l n) h = bget l h := by
  unfold bget growL
  rw [List.getD_eq_getElem?_getD, List.getD_eq_getElem?_getD, List.getElem?_append]
  split
  · rfl
  · rename_i h1
    rw [List.getElem?_replicate, List.getElem?_eq_none (by omega)]
    split <;> rfl
/-- The length of a mind's first row, off the world. -/
def mlen (mb : Nat) (w : World) : Nat := match w.cell? ⟨mb, 1, none⟩ with | some (.slice _ n _) => n | _ => 0
theorem MindAt.mlen {B : Nat} {w : World} {mb : Nat} {tp : Option Addr} {v1 v2 : Value} {F C : List Bool} {size : Nat} {fresh : Bool} (h : MindAt B w mb tp v1 v2 F C size fresh) : Go.Proofs.Ytomopjpfdmpgpaa.mlen mb w = F.length := by
  obtain ⟨A, c, e⟩ := h.f.slice
  unfold Go.Proofs.Ytomopjpfdmpgpaa.mlen
  rw [h.cells.2.1, e]
/-- The first row of a mind, appended to. -/
theorem MindAt.pushF {B : Nat} {w w' : World} {mb : Nat} {tp : Option Addr} {v1 v2 v1' : Value} {F F' C : List Bool} {size : Nat} {fresh : Bool} (h : MindAt B w mb tp v1 v2 F C size fresh) (hg : w.grownBy w' v1.ownBlock) (ho : OwnB w' B v1' F') (hn : ∀ g, v1'.ownBlock = some g → v1.ownBlock = some g ∨ w.heap.size ≤ g) :
    MindAt B (w'.setCell ⟨mb, 1, none⟩ v1') mb tp v1' v2 F' C size fresh ∧ w'.heap[mb]? = w.heap[mb]? := by
  have hb : w'.heap[mb]? = w.heap[mb]? := hg.block mb h.lt fun e => (h.ne.1 mb e.symm) rfl
  have hb' := hb.trans h.blk
  have h2 : OwnB w' B v2 C := h.c.same fun g e => hg.block g (h.c.lt g e).2 fun k => h.apart g k.symm e
  have hne : ∀ g, v1'.ownBlock = some g → v2.ownBlock ≠ some g ∧ g ≠ mb := fun g e => by
    rcases hn g e with q | q
    · exact ⟨h.apart g q, h.ne.1 g q⟩
    · refine ⟨fun k => by have := (h.c.lt g k).2; omega, fun k => by have := h.lt; omega⟩
  refine ⟨⟨mblk_set hb' _, ho.same fun g e => mblk_other _ _ (hne g e).2, h2.same fun g e => mblk_other _ _ (h.ne.2 g e), fun g e => (hne g e).1, h.base⟩, hb⟩
theorem MindAt.pushC {B : Nat} {w w' : World} {mb : Nat} {tp : Option Addr} {v1 v2 v2' : Value} {F C C' : List Bool} {size : Nat} {fresh : Bool} (h : MindAt B w mb tp v1 v2 F C size fresh) (hg : w.grownBy w' v2.ownBlock) (ho : OwnB w' B v2' C') (hn : ∀ g, v2'.ownBlock = some g → v2.ownBlock = some g ∨ w.heap.size ≤ g) :
    MindAt B (w'.setCell ⟨mb, 2, none⟩ v2') mb tp v1 v2' F C' size fresh ∧ w'.heap[mb]? = w.heap[mb]? := by
  have hb : w'.heap[mb]? = w.heap[mb]? := hg.block mb h.lt fun e => (h.ne.2 mb e.symm) rfl
  have hb' := hb.trans h.blk
  have h1 : OwnB w' B v1 F := h.f.same fun g e => hg.block g (h.f.lt g e).2 fun k => h.apart g e k.symm
  have hne : ∀ g, v2'.ownBlock = some g → v1.ownBlock ≠ some g ∧ g ≠ mb := fun g e => by
    rcases hn g e with q | q
    · exact ⟨fun k => h.apart g k q, h.ne.2 g q⟩
    · refine ⟨fun k => by have := (h.f.lt g k).2; omega, fun k => by have := h.lt; omega⟩
  refine ⟨⟨mblk_set hb' _, h1.same fun g e => mblk_other _ _ (h.ne.1 g e), ho.same fun g e => mblk_other _ _ (hne g e).2, fun g e k => (hne g k).1 e, h.base⟩, hb⟩
end Go.Proofs.Ytomopjpfdmpgpaa
