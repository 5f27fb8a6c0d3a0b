/- Typed rows of whole numbers of the call's own, and appending to them. No condition. -/
import Derived.Test.YtmaedahleenlgaaLib
import Derived.Test.YtmaedahleenlgaaBase
import Derived.Laws.OwnMore
import Derived.Laws.AppendOwn
set_option linter.unusedVariables false
set_option linter.unusedSimpArgs false
namespace Go.Proofs.Ytmaedahleenlgaa
open Go Go.RowKit

def OwnT (w : World) (B e : Nat) (v : Value) (xs : List Int) : Prop := w.ownsRow B e 1 v xs.length (xs.map (Value.int .i64))
theorem OwnT.nil (w : World) (B e : Nat) : OwnT w B e (.slice none 0 0) [] := World.ownsRow_nil _ _ _ _
theorem OwnT.own {w : World} {B e : Nat} {v : Value} {xs : List Int} (h : OwnT w B e v xs) (he : spT e = false) : OwnI w B .i64 v xs := by
  rcases h.2 with ⟨rfl, hn⟩ | ⟨g, cap, cur, rfl, hb, hg, hc, hm, hcs, htake⟩
  · obtain rfl := List.eq_nil_of_length_eq_zero hn
    exact OwnI.nil _ _ _
  · exact OwnI.new hg hb he rfl hc (by omega) (by simpa only [maxLen] using hm) (by rw [Nat.mul_one] at htake; exact htake)
theorem OwnT.lt {w : World} {B e : Nat} {v : Value} {xs : List Int} (h : OwnT w B e v xs) : ∀ k, v.ownBlock = some k → B ≤ k ∧ k < w.heap.size := World.ownsRow.lt h
theorem OwnT.same {w w' : World} {B e : Nat} {v : Value} {xs : List Int} (h : OwnT w B e v xs) (hk : ∀ g, v.ownBlock = some g → w'.heap[g]? = w.heap[g]?) : OwnT w' B e v xs := by
  refine ⟨h.1, ?_⟩
  rcases h.2 with hn | ⟨g, cap, cur, rfl, hb, hgg, rest⟩
  · exact .inl hn
  · exact .inr ⟨g, cap, cur, rfl, hb, (hk g rfl).trans hgg, rest⟩
theorem OwnT.below {w w' : World} {B e : Nat} {v : Value} {xs : List Int} (h : OwnT w B e v xs) (hb : Below w.heap.size w w') : OwnT w' B e v xs := h.same fun g e => hb.block _ (h.lt g e).2
theorem OwnT.slice {w : World} {B e : Nat} {v : Value} {xs : List Int} (h : OwnT w B e v xs) : ∃ A c, v = .slice A xs.length c := by
  rcases h.2 with ⟨rfl, hn⟩ | ⟨g, cap, cur, rfl, _⟩
  · exact ⟨none, 0, by rw [hn]⟩
  · exact ⟨_, _, rfl⟩
theorem OwnT.type {w : World} {B e : Nat} {v : Value} {xs : List Int} (h : OwnT w B e v xs) : ∀ g, v.ownBlock = some g → ∃ cur, w.heap[g]? = some (.cells cur e (0, 0)) := by
  intro g q
  rcases h.2 with ⟨rfl, _⟩ | ⟨g', cap, cur, rfl, _, hg, _⟩
  · simp [Value.ownBlock] at q
  · simp [Value.ownBlock] at q
    subst q
    exact ⟨cur, hg⟩
/-- Rows of two types lie apart. -/
theorem OwnT.apart {w : World} {B B' e e' : Nat} {v v' : Value} {xs ys : List Int} (h : OwnT w B e v xs) (h' : OwnT w B' e' v' ys) (hne : e ≠ e') : ∀ g, v.ownBlock = some g → v'.ownBlock ≠ some g := fun g q q' => by
  obtain ⟨c1, h1⟩ := h.type g q
  obtain ⟨c2, h2⟩ := h'.type g q'
  rw [h1] at h2
  simp only [Option.some.injEq, Obj.cells.injEq] at h2
  exact hne h2.2.1
/-- append(s, x) for a typed row of whole numbers of the call's own: the row stays where it is, or lies in a new block. -/
theorem run_appT {w : World} {B : Nat} {v : Value} {bs : List Int} {ty : Nat} (st e : Nat) (ht : Try.prog.underlying st = some (.slice e)) (hinf : (Try.prog.info? e).map (fun i => (i.zero, i.size, i.bytes)) = some (some (.int .i64 0), 1, 8)) (hown : OwnT w B e v bs) (b : Int) {ad : Addr} {m c : Nat} (hm : m = 1) (hc : w.cell? ad = some (.int .i64 b)) (hB : B ≤ w.heap.size) (hn : bs.length ≤ 1000000) :
    ∃ v' w', (Builtin.append_ #[st, st] ty #[v, .slice (some ad) m c]).run Try.prog w = .ok v' w' ∧ OwnT w' B e v' (bs ++ [b]) ∧ w.grownBy w' v.ownBlock ∧ (∀ g, v'.ownBlock = some g → v.ownBlock = some g ∨ w.heap.size ≤ g) := by
  subst hm
  obtain ⟨i, hi, hz, hs, hby⟩ := info_parts hinf
  have hl : ([Value.int .i64 b]).length = 1 * i.size := by rw [hs]; rfl
  have hadd : ad.add 0 = ad := by unfold Addr.add; split <;> simp_all
  have hnews : ∀ j u, ([Value.int .i64 b])[j]? = some u → w.cell? (ad.add j) = some u := by
    intro j u hu
    match j, hu with
    | 0, hu => simp at hu; subst hu; rw [hadd]; exact hc
  have grown : ∀ (old : Nat), old < bs.length + 1 → ∀ (row : Option Nat) (W : World), W = (w.drew.alloc (.cells ((bs.map (Value.int .i64)).toArray ++ #[Value.int .i64 b] ++ Builtin.zeroCells (Value.int .i64 0).cells (grownCap w (bs.length + 1) old e - (bs.length + 1))) e)) →
      OwnT W B e (.slice (some ⟨w.heap.size, 0, none⟩) (bs.length + 1) (grownCap w (bs.length + 1) old e)) (bs ++ [b]) ∧ w.grownBy W row := by
    intro old ho row W hW
    have hge := grownCap_ge w (bs.length + 1) old e
    have hcm : grownCap w (bs.length + 1) old e ≤ maxLen := grownCap_le_maxLen w (bs.length + 1) old e (by simp only [maxLen]; omega)
    subst hW
    refine ⟨⟨by simp, .inr ⟨w.heap.size, _, _, by simp, hB, heap_alloc_new w.drew _, by simp; omega, hcm, ?_, ?_⟩⟩, ⟨rfl, rfl, rfl, by simp, fun q hq _ => (Array.getElem?_push_lt hq).trans (Array.getElem?_eq_getElem hq).symm⟩⟩
    · have hz1 : (Value.int .i64 0).cells.size = 1 := rfl
      simp only [Array.size_append, List.size_toArray, List.length_map, size_zeroCells, hz1]
      simp
      omega
    · simp only [Array.toList_append, List.append_assoc, List.map_append]
      rw [← List.append_assoc]
      have : (bs ++ [b]).length * 1 = (bs.map (Value.int .i64) ++ [Value.int .i64 b]).length := by simp
      rw [this]
      exact List.take_left
  rcases hown.2 with ⟨rfl, hn0⟩ | ⟨g, cap, cur, rfl, hb, hg, hnc, hcm, hcs, htake⟩
  · have hb0 : bs = [] := List.eq_nil_of_length_eq_zero hn0
    subst hb0
    have hrun := run_append_nil (P := Try.prog) w st ty e i (.int .i64 0) ht hi hz ad 1 c [.int .i64 b] hl hnews (by omega) (by omega) (by rw [hby]; omega)
    have hgr := grown 0 (by simp) (Value.ownBlock (.slice none 0 0)) _ rfl
    simp only [List.length_nil, Nat.zero_add, List.map_nil, List.nil_append, Array.empty_append] at hgr
    exact ⟨_, _, hrun, hgr.1, hgr.2, fun g e => .inr (by simp [Value.ownBlock] at e; omega)⟩
  · by_cases hroom : bs.length + 1 ≤ cap
    · have hrun := run_app_room (P := Try.prog) st ty e i ht hi hs g bs.length cap cur e hg ad 1 c [.int .i64 b] rfl hnews (by intro u hu; simp at hu; subst hu; rfl) hroom (by omega)
      refine ⟨_, _, hrun, ⟨by simp, .inr ⟨g, cap, _, by simp, hb, setRow_heap w g cur _ e _ hg, by simp; omega, hcm, ?_, ?_⟩⟩, ⟨rfl, rfl, rfl, by simp, fun q _ hq => setRow_other w g q _ (fun e => hq (by simp [Value.ownBlock, e]))⟩, fun g' e => .inl (by simpa [Value.ownBlock] using e)⟩
      · simp only [List.size_toArray, List.length_append, List.length_take, List.length_drop, Array.length_toList, List.length_singleton]
        omega
      · have e1 : cur.toList.take bs.length = bs.map (Value.int .i64) := by rw [Nat.mul_one] at htake; exact htake
        rw [e1]
        simp only [List.map_append]
        have : (bs ++ [b]).length * 1 = (bs.map (Value.int .i64) ++ [Value.int .i64 b]).length := by simp
        rw [this]
        exact List.take_left
    · have holds : ∀ j u, (bs.map (Value.int .i64))[j]? = some u → w.cell? ((⟨g, 0, none⟩ : Addr).add j) = some u := by
        intro j u hu
        have e1 : cur.toList.take bs.length = bs.map (Value.int .i64) := by rw [Nat.mul_one] at htake; exact htake
        rw [← e1, List.getElem?_take] at hu
        split at hu
        · rw [addr_add, Nat.zero_add, cell_of_row w g j cur e (0, 0) hg]; simpa using hu
        · cases hu
      have hrun := run_append_grow (P := Try.prog) w st ty e i (.int .i64 0) ht hi hz ⟨g, 0, none⟩ bs.length cap (bs.map (Value.int .i64)) (by rw [hs]; simp) holds ad 1 c [.int .i64 b] hl hnews (by omega) (by omega) (growslice_fits (by omega) (by rw [hby]; omega))
      have hgr := grown cap (by omega) (Value.ownBlock (.slice (some ⟨g, 0, none⟩) bs.length cap)) _ rfl
      exact ⟨_, _, hrun, hgr.1, hgr.2, fun g' e => .inr (by simp [Value.ownBlock] at e; omega)⟩
theorem wp_appT {w : World} {ops : Array Oper} {rest : List Oper} {o : Oper} {a : Act} {Q : Exit → Act → World → Prop} (hgd : o.guard = none) (s x : Operand) (st e : Nat)
    (ho : o.op = .call { callee := .builtin .append, args := #[s, x], argTypes := #[st, st] }) (ht : Try.prog.underlying st = some (.slice e)) (hinf : (Try.prog.info? e).map (fun i => (i.zero, i.size, i.bytes)) = some (some (.int .i64 0), 1, 8))
    {B : Nat} {v : Value} {bs : List Int} {b : Int} {ad : Addr} {m c : Nat} (hv : a.eval s = v) (hx : a.eval x = .slice (some ad) m c) (hown : OwnT w B e v bs) (hm : m = 1) (hc : w.cell? ad = some (.int .i64 b)) (hB : B ≤ w.heap.size) (hn : bs.length ≤ 1000000)
    (h : ∀ v' w', OwnT w' B e v' (bs ++ [b]) → w.grownBy w' v.ownBlock → (∀ g, v'.ownBlock = some g → v.ownBlock = some g ∨ w.heap.size ≤ g) → wpList Try.prog ops Q rest (a.put o.dst v') w') : wpList Try.prog ops Q (o :: rest) a w := by
  obtain ⟨v', w', hrun, h1, h2, h3⟩ := run_appT (ty := o.type) st e ht hinf hown b hm hc hB hn (c := c)
  refine wpList_plain hgd fun K hK => ?_
  unfold Oper.wp execOp
  simp only [ho, resolve, invoke, builtin, Sem.run_bind, Sem.run_pure, Result.andThen_ok, List.map_toArray, List.map_cons, List.map_nil, hv, hx, hrun]
  exact hK _ _ (h v' w' h1 h2 h3)
end Go.Proofs.Ytmaedahleenlgaa
