/- What (*Table).add does. No condition. -/
import Derived.Test.YtomopjpfdmpgpaaTab
set_option linter.unusedVariables false
set_option linter.unusedSimpArgs false
namespace Go.Proofs.Ytomopjpfdmpgpaa
open Go Go.RowKit Go.WideMaps

theorem size_term : (Try.prog.info? 32).map (·.size) = some 1 := by kernel_rfl
theorem size_key : (Try.prog.info? 112).map (·.size) = some 19 := by kernel_rfl
theorem info_node : (Try.prog.info? 85).map (fun i => (i.zero, i.size, i.bytes)) = some (some (.agg #[.int .i64 0, .string ByteArray.empty, .slice none 0 0]), 3, 48) := by kernel_rfl

def keyCells (n : Nd) : Array Value := (Value.int .i64 n.kind :: .string n.text :: .int .i64 n.parts.length :: (padP n.parts).map (Value.int .i64)).toArray
theorem keyCells_size {n : Nd} (h : n.parts.length ≤ 16) : (keyCells n).size = 19 := by simp [keyCells, padP_length h]
/-- The key's block behind the copy. -/
theorem key_copied (kind : Int) (text : ByteArray) (parts : List Int) (h : parts.length ≤ 16) :
    ((#[Value.int .i64 kind, .string text, .int .i64 parts.length, .int .i64 0, .int .i64 0, .int .i64 0, .int .i64 0, .int .i64 0, .int .i64 0, .int .i64 0, .int .i64 0, .int .i64 0, .int .i64 0, .int .i64 0, .int .i64 0, .int .i64 0, .int .i64 0, .int .i64 0, .int .i64 0] : Array Value).toList.take 3 ++ (parts.map (Value.int .i64) ++
     (#[Value.int .i64 kind, .string text, .int .i64 parts.length, .int .i64 0, .int .i64 0, .int .i64 0, .int .i64 0, .int .i64 0, .int .i64 0, .int .i64 0, .int .i64 0, .int .i64 0, .int .i64 0, .int .i64 0, .int .i64 0, .int .i64 0, .int .i64 0, .int .i64 0, .int .i64 0] : Array Value).toList.drop (3 + parts.length))).toArray = keyCells ⟨kind, text, parts⟩ := by
  have e : (#[Value.int .i64 kind, .string text, .int .i64 parts.length, .int .i64 0, .int .i64 0, .int .i64 0, .int .i64 0, .int .i64 0, .int .i64 0, .int .i64 0, .int .i64 0, .int .i64 0, .int .i64 0, .int .i64 0, .int .i64 0, .int .i64 0, .int .i64 0, .int .i64 0, .int .i64 0] : Array Value).toList = [Value.int .i64 kind, .string text, .int .i64 parts.length] ++ List.replicate 16 (.int .i64 0) := rfl
  have e2 : ∀ (x y z : Value) (l : List Value) (k : Nat), List.drop (3 + k) (x :: y :: z :: l) = l.drop k := fun x y z l k => by rw [Nat.add_comm]; rfl
  rw [e]
  simp only [List.cons_append, List.nil_append, List.take_succ_cons, List.take_zero, e2, List.drop_replicate, keyCells, padP, List.map_append, List.map_replicate]

theorem wpStill_lookup {w : World} {ops : Array Oper} {rest : List Oper} {o : Oper} {a : Act} {Q : Act → Prop} (hgd : o.guard = none) (x y : Operand) (ho : o.op = .lookup 78 x y true)
    {mb : Nat} {es : Array MapEntry} {clock : Nat} {T : List Nd} {n : Nd} (hx : a.eval x = .map (some mb)) (hy : a.eval y = keyV n) (hb : w.heap[mb]? = some (.map es clock)) (hw : WfT T) (hm : MapOk T es.toList) (hn : KeyOk n)
    (h : wpStill Try.prog ops w Q rest (a.put o.dst (.tuple #[.int .i64 (foundT T n).1, .bool (foundT T n).2]))) : wpStill Try.prog ops w Q (o :: rest) a := by
  refine wpStill_op hgd ?_ h
  unfold execOp
  simp only [ho, hx, hy, Sem.run_bind, run_lookup_tab hb hw hm hn, Result.andThen_ok, Sem.run_pure]

theorem wp_update {w : World} {ops : Array Oper} {rest : List Oper} {o : Oper} {a : Act} {Q : Exit → Act → World → Prop} (hgd : o.guard = none) (hdst : o.dst = none) (x y z : Operand) (ho : o.op = .mapUpdate 78 x y z)
    {mb : Nat} {es : Array MapEntry} {clock : Nat} {T : List Nd} {n : Nd} {v : Value} (hx : a.eval x = .map (some mb)) (hy : a.eval y = keyV n) (hz : a.eval z = v) (hb : w.heap[mb]? = some (.map es clock)) (hw : WfT T) (hm : MapOk T es.toList) (hn : KeyOk n) (hno : ∀ i : Nat, T[i]? ≠ some n)
    (h : wpList Try.prog ops Q rest a (ChangeMaps.setBlock w mb (.map (es.push ⟨keyV n, v, clock⟩) (clock + 1)))) : wpList Try.prog ops Q (o :: rest) a w := by
  refine wp_op_skip hgd ?_ (by rw [hdst]; exact h)
  unfold execOp
  simp only [ho, hx, hy, hz, Sem.run_bind, run_update_tab hb hw hm hn hno, Result.andThen_ok, Sem.run_pure]
theorem owned_slice {w : World} {base e size n : Nat} {v : Value} {xs : List Value} (h : w.ownsRow base e size v n xs) : ∃ A c, v = .slice A n c := by
  rcases h.2 with ⟨rfl, rfl⟩ | ⟨g, cap, cur, rfl, _⟩
  · exact ⟨none, 0, rfl⟩
  · exact ⟨_, _, rfl⟩

theorem own_ne_tab {w : World} {B e size n tb : Nat} {v : Value} {xs : List Value} {o : Obj} (h : w.ownsRow B e size v n xs) (ho : w.heap[tb]? = some o) (ht : (match o with | .cells _ t _ => t == e | _ => false) = false) : some tb ≠ v.ownBlock := by
  rcases h.2 with ⟨rfl, _⟩ | ⟨g, cap, cur, rfl, _, hg, _⟩
  · simp [Value.ownBlock]
  · intro e
    simp only [Value.ownBlock, Option.some.injEq] at e
    subst e
    rw [hg] at ho
    cases ho
    simp at ht
def AddPost (B tb : Nat) (T : List Nd) (n : Nd) (w : World) (e : Ending) (w' : World) : Prop := e = .returned (.int .i64 (addT T n).2) ∧ IsTab B w' tb (addT T n).1 ∧ Frm tabO B w w'
theorem add_found {B tb : Nat} {T : List Nd} {n : Nd} {w w' : World} {i : Nat} (h : (if n.kind = 2 then none else lookT T n) = some i) (ht : IsTab B w tb T) (hb : Below w.heap.size w w') : AddPost B tb T n w (.returned (.int .i64 ((i : Int) + 1))) w' := by
  unfold AddPost addT
  rw [h]
  exact ⟨rfl, ht.below hb, .of_below hb⟩
theorem add_full {B tb : Nat} {T : List Nd} {n : Nd} {w w' : World} (h : (if n.kind = 2 then none else lookT T n) = none) (hl : T.length = 65536) (ht : IsTab B w tb T) (hb : Below w.heap.size w w') : AddPost B tb T n w (.returned (.int .i64 0)) w' := by
  unfold AddPost addT
  rw [h]
  simp only [if_pos hl]
  exact ⟨trivial, ht.below hb, .of_below hb⟩

theorem grownBy_setCell (w : World) (p : Addr) (u : Value) : w.grownBy (w.setCell p u) (some p.block) :=
  ⟨rfl, rfl, rfl, by simp, fun k hk hne => Below.heap_setCell w p u k (fun e => hne (by rw [e]))⟩
/-- Behind the append and the store. -/
structure AddMid (B : Nat) (w : World) (tb mb g cap : Nat) (T : List Nd) (n : Nd) (P : Option Addr) (c : Nat) (cs : List Value) (es : Array MapEntry) (clock : Nat) (w6 : World) : Prop where
  tab : w6.heap[tb]? = some (.cells #[.slice (some ⟨g, 0, none⟩) (T.length + 1) cap, .map (some mb)] 81 (0, 0))
  map : w6.heap[mb]? = some (.map es clock)
  node : w6.heap[w.heap.size]? = some (.cells #[.int .i64 n.kind, .string n.text, .slice P n.parts.length c] 85 (0, 0))
  key : w6.heap[w.heap.size + 1]? = some (.cells (keyCells n) 112 (0, 0))
  own : w6.ownsRow B 85 3 (.slice (some ⟨g, 0, none⟩) (T.length + 1) cap) (T.length + 1) (cs ++ [.int .i64 n.kind, .string n.text, .slice P n.parts.length c])
  frm : Frm tabO B w w6
theorem add_mid {B : Nat} {w w3 w5 : World} {tb mb g cap : Nat} {T : List Nd} {n : Nd} {A P : Option Addr} {cA c : Nat} {cs : List Value} {es : Array MapEntry} {clock : Nat} (hB : B ≤ tb)
    (h1 : w.heap[tb]? = some (.cells #[.slice A T.length cA, .map (some mb)] 81 (0, 0))) (h3 : w.heap[mb]? = some (.map es clock)) (hown : w.ownsRow B 85 3 (.slice A T.length cA) T.length cs)
    (b3 : Below w.heap.size w w3) (s3 : w3.heap.size = w.heap.size + 2) (f1 : w3.heap[w.heap.size]? = some (.cells #[.int .i64 n.kind, .string n.text, .slice P n.parts.length c] 85 (0, 0)))
    (f2 : w3.heap[w.heap.size + 1]? = some (.cells (keyCells n) 112 (0, 0))) {N : Obj}
    (hown5 : w5.ownsRow B 85 3 (.slice (some ⟨g, 0, none⟩) (T.length + 1) cap) (T.length + 1) (cs ++ [.int .i64 n.kind, .string n.text, .slice P n.parts.length c]))
    (hgr5 : (w3.alloc N).drew.grownBy w5 (Value.slice A T.length cA).ownBlock) (hg5 : (Value.slice A T.length cA).ownBlock = some g ∨ g = w3.heap.size + 1) (hturn : ∀ k o, w.heap[k]? = some o → some k = (Value.slice A T.length cA).ownBlock → tabO o = true) :
    AddMid B w tb mb g cap T n P c cs es clock (w5.setCell ⟨tb, 0, none⟩ (.slice (some ⟨g, 0, none⟩) (T.length + 1) cap)) := by
  have htb := lt_of_get h1
  have hmb := lt_of_get h3
  have hne1 : some tb ≠ (Value.slice A T.length cA).ownBlock := own_ne_tab hown h1 rfl
  have hne2 : some mb ≠ (Value.slice A T.length cA).ownBlock := own_ne_tab hown h3 rfl
  have hbig : ∀ k, w.heap.size ≤ k → some k ≠ (Value.slice A T.length cA).ownBlock := fun k hk e => by
    have := (hown.lt k e.symm).2
    omega
  have hgt : g ≠ tb := by
    rintro rfl
    rcases hg5 with h | h
    · exact hne1 h.symm
    · omega
  have hmt : mb ≠ tb := by
    rintro rfl
    rw [h1] at h3
    cases h3
  have old : ∀ k, k < w3.heap.size → some k ≠ (Value.slice A T.length cA).ownBlock → w5.heap[k]? = w3.heap[k]? := fun k hk hne =>
    (hgr5.block k (by simp; omega) hne).trans (alloc_old hk)
  have old6 : ∀ k, k < w3.heap.size → k ≠ tb → some k ≠ (Value.slice A T.length cA).ownBlock → (w5.setCell ⟨tb, 0, none⟩ (.slice (some ⟨g, 0, none⟩) (T.length + 1) cap)).heap[k]? = w3.heap[k]? := fun k hk hk2 hne =>
    (Below.heap_setCell w5 _ _ k hk2).trans (old k hk hne)
  have e5 : w5.heap[tb]? = some (.cells #[.slice A T.length cA, .map (some mb)] 81 (0, 0)) := (old tb (by omega) hne1).trans ((b3.block tb htb).trans h1)
  refine ⟨heap_setCell_same w5 tb 0 _ _ _ e5, (old6 mb (by omega) hmt hne2).trans ((b3.block mb hmb).trans h3), (old6 _ (by omega) (by omega) (hbig _ (Nat.le_refl _))).trans f1, (old6 _ (by omega) (by omega) (hbig _ (by omega))).trans f2,
    hown5.kept (grownBy_setCell w5 _ _) (.inr (by simp [Value.ownBlock]; exact hgt)), ⟨?_, ?_, ?_, ?_, fun k o hk hc => ?_⟩⟩
  · exact hgr5.os.trans b3.os
  · exact hgr5.tape.trans b3.tape
  · exact hgr5.output.trans b3.output
  · have := hgr5.size; simp at this ⊢; omega
  · have hkl := lt_of_get hk
    have hkt : k ≠ tb := by
      rintro rfl
      rw [h1] at hk
      cases hk
      rcases hc with hc | hc
      · omega
      · simp [tabO] at hc
    have hko : some k ≠ (Value.slice A T.length cA).ownBlock := by
      intro e
      have hb := (hown.lt k e.symm).1
      have ht := hturn k o hk e
      rcases hc with hc | hc
      · omega
      · rw [ht] at hc; cases hc
    exact (old6 k (by omega) hkt hko).trans ((b3.block k hkl).trans hk)
theorem isTab_push {B : Nat} {w w6 w7 : World} {tb mb g cap : Nat} {T : List Nd} {n : Nd} {P : Option Addr} {c : Nat} {cs : List Value} {es : Array MapEntry} {clock : Nat} (M : AddMid B w tb mb g cap T n P c cs es clock w6)
    (hw : WfT T) (hB : B ≤ tb) (hmb : B ≤ mb) (hm : MapOk T es.toList) (hcs : CellsOk B w T cs) (hl : cs.length = T.length * 3) (hg : GoodN T.length T n) (hr : Rds B w .i64 P n.parts.length c n.parts) (hq : (if n.kind = 2 then none else lookT T n) = none) (hlt : T.length < 65536)
    (hw7 : w7 = if n.kind = 2 then w6 else ChangeMaps.setBlock w6.drew mb (.map (es.push ⟨keyV n, .int .i64 ((T.length : Int) + 1), clock⟩) (clock + 1))) :
    AddPost B tb T n w (.returned (.int .i64 ((T.length : Int) + 1))) w7 := by
  have hadd : addT T n = (T ++ [n], (T.length : Int) + 1) := by
    unfold addT
    rw [hq]
    simp only [if_neg (show ¬ T.length = 65536 by omega)]
  have hwf : WfT (T ++ [n]) := wfT_snoc hw hg hlt fun hk => by rw [if_neg hk] at hq; exact lookT_none hq
  have hmo := hm.snoc n clock
  unfold AddPost
  rw [hadd]
  refine ⟨rfl, ?_⟩
  by_cases hk : n.kind = 2
  · rw [if_pos hk] at hw7 hmo
    subst hw7
    exact ⟨⟨hwf, hB, _, mb, es, clock, _, M.tab, hmb, M.map, hmo, by simpa using M.own, (hcs.frm M.frm.tab_sp).snoc hl (hr.frm M.frm.tab_sp), fun h => by simp at h⟩, M.frm⟩
  · rw [if_neg hk] at hw7 hmo
    have hml := lt_of_get M.map
    have at_mb : w7.heap[mb]? = some (.map (es.push ⟨keyV n, .int .i64 ((T.length : Int) + 1), clock⟩) (clock + 1)) := by
      rw [hw7]; simp [ChangeMaps.setBlock, hml]
    have other : ∀ k, k ≠ mb → w7.heap[k]? = w6.heap[k]? := fun k hk => by
      rw [hw7]; simp only [ChangeMaps.setBlock, World.drew]; rw [Array.getElem?_setIfInBounds_ne (Ne.symm hk)]
    have hsz : w7.heap.size = w6.heap.size := by rw [hw7]; simp [ChangeMaps.setBlock]
    have f67 : Frm tabO B w6 w7 := ⟨by rw [hw7]; rfl, by rw [hw7]; rfl, by rw [hw7]; rfl, by omega, fun k o ho hc => by
      by_cases hkm : k = mb
      · subst hkm
        rw [M.map] at ho
        cases ho
        rcases hc with hc | hc
        · omega
        · simp [tabO] at hc
      · rw [other k hkm]; exact ho⟩
    have hne1 : tb ≠ mb := by
      rintro rfl
      have := M.tab
      rw [M.map] at this
      cases this
    have frm := M.frm.trans f67
    refine ⟨⟨hwf, hB, _, mb, _, clock + 1, _, (other tb hne1).trans M.tab, hmb, at_mb, by simpa using hmo, ⟨by have := M.own.1; simpa using this, ?_⟩, (hcs.frm frm.tab_sp).snoc hl (hr.frm frm.tab_sp), fun h => by simp at h⟩, frm⟩
    rcases M.own.2 with ⟨h, _⟩ | ⟨g', cap', cur, h, k1, k2, k3⟩
    · cases h
    · refine .inr ⟨g', cap', cur, by simpa using h, k1, (other g' ?_).trans k2, by simpa using k3⟩
      rintro rfl
      rw [M.map] at k2
      cases k2

set_option maxHeartbeats 3200000 in
set_option maxRecDepth 100000 in
theorem add_any {B : Nat} {tb : Nat} {T : List Nd} (kind : Int) (text : ByteArray) (P : Option Addr) (n c : Nat) (parts : List Int) (w : World) (ht : IsTab B w tb T) (hg : GoodN T.length T ⟨kind, text, parts⟩) (hr : Rds B w .i64 P n c parts) :
    Calls Try.prog 46 #[.pointer (some ⟨tb, 0, none⟩), .agg #[.int .i64 kind, .string text, .slice P n c]] w (AddPost B tb T ⟨kind, text, parts⟩ w) := by
  have HG := Lib.hid hg; clear hg
  have HR := Lib.hid hr; clear hr
  have HT := Lib.hid ht
  obtain ⟨hw, hB, v, mb, es, clock, cs, h1, hmb, h3, hm, hown, hcs, hnil⟩ := ht
  have hlen := HR.out.len
  subst hlen
  have hn : parts.length ≤ 16 := HG.out.many
  have htb : tb < w.heap.size := lt_of_get h1
  have hmbl : mb < w.heap.size := lt_of_get h3
  have hTl := hw.len
  obtain ⟨A, cA, rfl⟩ := owned_slice hown
  have HK := Lib.hid (HG.out.key hw.len)
  have Hw := Lib.hid hw
  have H1 := Lib.hid h1
  have H3 := Lib.hid h3
  have Hm := Lib.hid hm
  have Hown := Lib.hid hown
  have Hcs := Lib.hid hcs
  have HTurn : Hid (∀ k o, w.heap[k]? = some o → some k = (Value.slice A T.length cA).ownBlock → tabO o = true) := fun k o hk e => row_turns hw hown hcs hnil hk e
  clear hw h1 h3 hm hown hcs hnil
  go_enter Try.func46, Try.ntmps46
  go_wp2_with ((with_reducible show wpList _ _ _ (Oper.mk _ (Op.store 112 _ _) _ _ _ _ :: _) _ _); (refine wp_store_new rfl rfl 112 _ _ rfl _ #[.int .i64 kind, .string text, .int .i64 parts.length, .int .i64 0, .int .i64 0, .int .i64 0, .int .i64 0, .int .i64 0, .int .i64 0, .int .i64 0, .int .i64 0, .int .i64 0, .int .i64 0, .int .i64 0, .int .i64 0, .int .i64 0, .int .i64 0, .int .i64 0, .int .i64 0] _ (w.heap.size + 1) ?_ rfl rfl size_key rfl ?_ ?_); (simp [World.size_alloc]); (simp [Value.oneCell']))
  refine wp_still_tail 4 (by kernel_rfl) (by kernel_rfl) ?_
  intro w1 hw1
  have b1 : Below w.heap.size w w1 := by rw [hw1]; exact ((((Below.refl _ _).alloc (Nat.le_refl _) _).alloc (by simp) _)).drew
  have f1 : w1.heap[w.heap.size]? = some (.cells #[.int .i64 kind, .string text, .slice P parts.length c] 85 (0, 0)) := by
    rw [hw1]; exact heap_alloc2_old w _ _
  have f2 : w1.heap[w.heap.size + 1]? = some (.cells #[.int .i64 kind, .string text, .int .i64 parts.length, .int .i64 0, .int .i64 0, .int .i64 0, .int .i64 0, .int .i64 0, .int .i64 0, .int .i64 0, .int .i64 0, .int .i64 0, .int .i64 0, .int .i64 0, .int .i64 0, .int .i64 0, .int .i64 0, .int .i64 0, .int .i64 0] 112 (0, 0)) := by
    rw [hw1]; exact heap_alloc2_new w _ _
  have s1 : w1.heap.size = w.heap.size + 2 := by rw [hw1]; simp
  have c2 : w1.cell? ⟨w.heap.size, 2, none⟩ = some (.slice P parts.length c) := by rw [cell_of_row w1 w.heap.size 2 _ _ _ f1]; rfl
  have B1 := Lib.hid b1
  have F1 := Lib.hid f1
  have F2 := Lib.hid f2
  have S1 := Lib.hid s1
  clear b1 f1 f2 s1 hw1
  simp only [List.take_succ_cons, List.take_zero, List.drop_succ_cons, List.drop_zero]
  repeat still_step
  refine wpStill_nil ?_
  refine wp_copy_row rfl _ _ _ _ rfl 32 Try.underlying57 size_term (w.heap.size + 1) 3 16 16 P parts.length c rfl rfl _ _ F2.out .i64 parts ((HR.out.below B1.out).cell) rfl hn (by simp; omega) ?_
  rw [key_copied kind text parts hn]
  obtain ⟨w2, hw2⟩ : ∃ w2, w2 = w1.setRow (w.heap.size + 1) (keyCells ⟨kind, text, parts⟩) := ⟨_, rfl⟩
  rw [← hw2]
  have b2 : Below w.heap.size w w2 := by rw [hw2]; exact below_setRow B1.out (by omega) _
  have f1 : w2.heap[w.heap.size]? = some (.cells #[.int .i64 kind, .string text, .slice P parts.length c] 85 (0, 0)) := by
    rw [hw2, setRow_other w1 _ _ _ (by omega)]; exact F1.out
  have f2 : w2.heap[w.heap.size + 1]? = some (.cells (keyCells ⟨kind, text, parts⟩) 112 (0, 0)) := by
    rw [hw2]; exact setRow_heap w1 _ _ _ _ _ F2.out
  have s2 : w2.heap.size = w.heap.size + 2 := by rw [hw2, size_setRow]; exact S1.out
  clear hw2 c2 B1 F1 F2 S1
  have B2 := Lib.hid b2
  have F1 := Lib.hid f1
  have F2 := Lib.hid f2
  have S2 := Lib.hid s2
  clear b2 f1 f2 s2
  go_wp2_with fail
  refine wp_still_all (by kernel_rfl) (by kernel_rfl) ?_
  intro w3 hw3
  have b3 : Below w.heap.size w w3 := by rw [hw3]; exact B2.out.drew
  have f1 : w3.heap[w.heap.size]? = some (.cells #[.int .i64 kind, .string text, .slice P parts.length c] 85 (0, 0)) := by rw [hw3]; exact F1.out
  have f2 : w3.heap[w.heap.size + 1]? = some (.cells (keyCells ⟨kind, text, parts⟩) 112 (0, 0)) := by rw [hw3]; exact F2.out
  have s3 : w3.heap.size = w.heap.size + 2 := by rw [hw3]; exact S2.out
  have t1 : w3.heap[tb]? = some (.cells #[.slice A T.length cA, .map (some mb)] 81 (0, 0)) := (b3.block _ htb).trans H1.out
  have t3 : w3.heap[mb]? = some (.map es clock) := (b3.block _ hmbl).trans H3.out
  clear hw3 B2 F1 F2 S2
  have c0 : w3.cell? ⟨tb, 0, none⟩ = some (.slice A T.length cA) := by rw [cell_of_row w3 tb 0 _ _ _ t1]; rfl
  have c1 : w3.cell? ⟨tb, 1, none⟩ = some (.map (some mb)) := by rw [cell_of_row w3 tb 1 _ _ _ t1]; rfl
  have d0 : w3.cell? ⟨w.heap.size, 0, none⟩ = some (.int .i64 kind) := by rw [cell_of_row w3 w.heap.size 0 _ _ _ f1]; rfl
  have d1 : w3.cell? ⟨w.heap.size, 1, none⟩ = some (.string text) := by rw [cell_of_row w3 w.heap.size 1 _ _ _ f1]; rfl
  have d2 : w3.cell? ⟨w.heap.size, 2, none⟩ = some (.slice P parts.length c) := by rw [cell_of_row w3 w.heap.size 2 _ _ _ f1]; rfl
  have B3 := Lib.hid b3
  have F1 := Lib.hid f1
  have F2 := Lib.hid f2
  have S3 := Lib.hid s3
  have T1 := Lib.hid t1
  have T3 := Lib.hid t3
  clear b3 f1 f2 s3 t1 t3
  still_step
  still_step
  still_step
  still_step
  refine wpStill_load_row rfl 112 _ rfl (w.heap.size + 1) rfl _ _ _ _ Try.underlying112 rfl (by rw [keyCells_size hn]; exact size_key) F2.out ?_
  refine wpStill_lookup rfl _ _ rfl (mb := mb) (T := T) (n := ⟨kind, text, parts⟩) rfl rfl T3.out Hw.out Hm.out HK.out ?_
  cases hq : (if (⟨kind, text, parts⟩ : Nd).kind = 2 then none else lookT T ⟨kind, text, parts⟩) with
  | some i =>
    have hf : foundT T ⟨kind, text, parts⟩ = ((i : Int) + 1, true) := by unfold foundT; rw [hq]
    rw [hf]
    have hk2 : (kind != 2) = true := by
      by_cases hk : kind = 2
      · rw [if_pos hk] at hq; cases hq
      · simp [hk]
    have HQ := Lib.hid hq
    clear hq hf
    repeat still_step
    refine wpStill_nil ?_
    go_wp2_with fail
    go_ret
    exact add_found HQ.out HT.out B3.out
  | none =>
    have hf : foundT T ⟨kind, text, parts⟩ = (0, false) := by unfold foundT; rw [hq]
    rw [hf]
    have HQ := Lib.hid hq
    clear hq hf
    repeat still_step
    refine wpStill_nil ?_
    by_cases hfull : T.length = 65536
    · have hfull' : ((T.length : Int) == 65536) = true := by simp; omega
      have HF := Lib.hid hfull
      clear hfull
      go_wp2_with fail
      go_ret
      exact add_full HQ.out HF.out HT.out B3.out
    have hfull' : ((T.length : Int) == 65536) = false := by simp; omega
    have hlt : T.length < 65536 := by omega
    clear hfull
    go_wp2_with fail
    obtain ⟨i0, hi0, hz0, hz1, hz2⟩ := info_parts info_node
    have ON := Lib.hid (((Hown.out.kept (grown_of_below B3.out none) (by cases A <;> simp [Value.ownBlock])).alloc (.cells #[.int .i64 kind, .string text, .slice P parts.length c] 85)).drew)
    have hne : Hid (some tb ≠ (Value.slice A T.length cA).ownBlock) := own_ne_tab ON.out (o := .cells #[.slice A T.length cA, .map (some mb)] 81 (0, 0)) ((alloc_old (by have := S3.out; omega)).trans T1.out) rfl
    have tabcell : Hid (∀ w5, (w3.alloc (.cells #[.int .i64 kind, .string text, .slice P parts.length c] 85)).drew.grownBy w5 (Value.slice A T.length cA).ownBlock → w5.cell? ⟨tb, 0, none⟩ = some (.slice A T.length cA) ∧ w5.frozen? ⟨tb, 0, none⟩ = false) := by
      intro w5 hg
      have e : w5.heap[tb]? = some (.cells #[.slice A T.length cA, .map (some mb)] 81 (0, 0)) := (hg.block tb (by have := S3.out; simp; omega) hne.out).trans ((alloc_old (by have := S3.out; omega)).trans T1.out)
      exact ⟨by rw [cell_of_row w5 tb 0 _ _ _ e]; rfl, frozen_of_row w5 tb 0 _ _ e⟩
    have hnews : Hid (∀ j u, ([.int .i64 kind, .string text, .slice P parts.length c] : List Value)[j]? = some u → (w3.alloc (.cells #[.int .i64 kind, .string text, .slice P parts.length c] 85)).drew.cell? ((⟨w3.heap.size, 0, none⟩ : Addr).add j) = some u) := World.news_of_block (heap_alloc_new w3 _)
    have hone : Hid (∀ u ∈ ([.int .i64 kind, .string text, .slice P parts.length c] : List Value), u.oneCell' = true) := by
      intro u hu; simp at hu; rcases hu with rfl | rfl | rfl <;> rfl
    have hbase : Hid (B ≤ (w3.alloc (.cells #[.int .i64 kind, .string text, .slice P parts.length c] 85)).drew.heap.size) := by have := S3.out; show B ≤ _; simp; omega
    have hml : Hid (T.length + 1 ≤ maxLen) := by show _ ≤ _; simp only [maxLen]; omega
    have hby : Hid ((T.length + 1) * 48 ≤ 140737488355328) := by show _ ≤ _; omega
    have hsz : Hid ((w3.alloc (.cells #[.int .i64 kind, .string text, .slice P parts.length c] 85)).drew.heap.size = w3.heap.size + 1) := by show _ = _; simp
    have htb3 : tb < w3.heap.size := by have := S3.out; omega
    have hws3 : w.heap.size < w3.heap.size := by have := S3.out; omega
    go_region_law ((refine step_append_lies _ rfl (.tmp 48) (.tmp 50) 79 rfl B 85 i0 _ 3 48 Try.underlying79 hi0 hz0 hz1 hz2 rfl (by decide) (.slice A T.length cA) T.length cs (by simp [Act.eval, Act.put]) ON.out ⟨w3.heap.size, 0, none⟩ 1 1 [.int .i64 kind, .string text, .slice P parts.length c] (by simp [Act.eval, Act.put]) rfl hnews.out hone.out (by decide) hml.out hby.out hbase.out (w3.heap.size + 1) hsz.out ?_); intro g cap w5 hown5 hgr5 hg5 hgl5; have HOWN5 := Lib.hid hown5; have HGR5 := Lib.hid hgr5; have HG5 := Lib.hid hg5; obtain ⟨e0, e1⟩ := tabcell.out w5 hgr5; clear hown5 hgr5 hg5)
    all_goals
      have M := Lib.hid (add_mid (n := ⟨kind, text, parts⟩) hB H1.out H3.out Hown.out B3.out S3.out F1.out F2.out HOWN5.out HGR5.out HG5.out HTurn.out)
      obtain ⟨w6, hw6⟩ : ∃ w6, w6 = w5.setCell ⟨tb, 0, none⟩ (.slice (some ⟨g, 0, none⟩) (T.length + 1) cap) := ⟨_, rfl⟩
      rw [← hw6] at M ⊢
      clear hw6 HOWN5 HGR5 HG5 e0 e1 c0 c1 d0 d1 d2 htb3 hws3 ON hne tabcell hnews hone hbase hml hby hsz hgl5
      have c0 : w6.cell? ⟨tb, 0, none⟩ = some (.slice (some ⟨g, 0, none⟩) (T.length + 1) cap) := by rw [cell_of_row w6 tb 0 _ _ _ M.out.tab]; rfl
      have c1 : w6.cell? ⟨tb, 1, none⟩ = some (.map (some mb)) := by rw [cell_of_row w6 tb 1 _ _ _ M.out.tab]; rfl
      have d0 : w6.cell? ⟨w.heap.size, 0, none⟩ = some (.int .i64 kind) := by rw [cell_of_row w6 w.heap.size 0 _ _ _ M.out.node]; rfl
      by_cases hk : kind = 2
      · have hk' : (kind != 2) = false := by simp [hk]
        have HKK := Lib.hid hk
        clear hk
        go_wp2_with fail
        go_ret
        exact isTab_push M.out Hw.out hB hmb Hm.out Hcs.out Hown.out.1 HG.out HR.out HQ.out hlt (by rw [if_pos HKK.out])
      · have hk' : (kind != 2) = true := by simp [hk]
        have HKK := Lib.hid hk
        clear hk
        go_wp2_with fail
        refine wp_still_tail 6 (by kernel_rfl) (by kernel_rfl) ?_
        intro w7 hw7
        have e1 : w7.cell? ⟨tb, 1, none⟩ = some (.map (some mb)) := by rw [hw7]; exact c1
        have m7 : w7.heap[mb]? = some (.map es clock) := by rw [hw7]; exact M.out.map
        have k7 : w7.heap[w.heap.size + 1]? = some (.cells (keyCells ⟨kind, text, parts⟩) 112 (0, 0)) := by rw [hw7]; exact M.out.key
        have M7 := Lib.hid m7
        have K7 := Lib.hid k7
        have W7 := Lib.hid hw7
        clear hw7 m7 k7 c0 c1
        simp only [List.take_succ_cons, List.take_zero, List.drop_succ_cons, List.drop_zero]
        still_step
        still_step
        still_step
        still_step
        refine wpStill_load_row rfl 112 _ rfl (w.heap.size + 1) rfl _ _ _ _ Try.underlying112 rfl (by rw [keyCells_size hn]; exact size_key) K7.out ?_
        still_step
        refine wpStill_nil ?_
        refine wp_update rfl rfl _ _ _ rfl (mb := mb) (T := T) (n := ⟨kind, text, parts⟩) (v := .int .i64 ((T.length : Int) + 1)) rfl rfl rfl M7.out Hw.out Hm.out HK.out (lookT_none (by have := HQ.out; rw [if_neg HKK.out] at this; exact this)) ?_
        rw [W7.out]
        obtain ⟨w8, hw8⟩ : ∃ w8, w8 = ChangeMaps.setBlock w6.drew mb (.map (es.push ⟨keyV ⟨kind, text, parts⟩, .int .i64 ((T.length : Int) + 1), clock⟩) (clock + 1)) := ⟨_, rfl⟩
        rw [← hw8]
        have W8 := Lib.hid hw8
        clear hw8 e1 d0
        go_wp2_with fail
        go_ret
        exact isTab_push M.out Hw.out hB hmb Hm.out Hcs.out Hown.out.1 HG.out HR.out HQ.out hlt (by rw [if_neg HKK.out]; exact W8.out)
end Go.Proofs.Ytomopjpfdmpgpaa
