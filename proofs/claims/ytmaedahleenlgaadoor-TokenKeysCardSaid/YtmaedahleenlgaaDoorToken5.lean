/- Own texts, one behind the other. Each bears its own remark. -/
import Derived.Test.YtmaedahleenlgaaDoorTake
import Derived.Test.YtmaedahleenlgaaDoorTicket4
import Derived.Test.YtmaedahleenlgaaDoorStoreRow
import Derived.Test.YtmaedahleenlgaaDoorTab
import Derived.Test.YtmaedahleenlgaaDoorPureToken2
/- A token's text (layer 16). No condition but the table of bit places. -/
set_option linter.unusedVariables false
set_option linter.unusedSimpArgs false
namespace Go.Proofs.YtmaedahleenlgaaDoor
open Go Go.RowKit

theorem OwnI.eq {w : World} {B : Nat} {k : IntKind} {v : Value} {xs ys : List Int} (h : OwnI w B k v xs) (e : xs = ys) : OwnI w B k v ys := e ▸ h
set_option maxHeartbeats 3200000 in
set_option maxRecDepth 100000 in
theorem ttext_any {B : Nat} (l : Bool) (a t : Int) (nm : List Int) (A : Option Addr) (n c : Nat) (w : World) (h : Rds B w .u8 A n c nm) (hn : n ≤ 1000) (hz : Tz w) :
    Calls Tryd.prog 29 #[.agg #[.bool l, .int .i64 a, .int .i64 t, .slice A n c]] w (BytesPost (tokB ⟨l, a, t, nm⟩) w) := by
  obtain ⟨W, hW⟩ : ∃ W, W = w.alloc (.cells #[.bool l, .int .i64 a, .int .i64 t, .slice A n c] 32) := ⟨_, rfl⟩
  have HBW : Hid (Below w.heap.size w W) := by rw [hW]; exact below_new _
  have HSW : Hid (W.heap.size = w.heap.size + 1) := by rw [hW]; show _ = _; simp
  have x0 : W.cell? ⟨w.heap.size, 0, none⟩ = some (.bool l) := by rw [hW]; simp [go_sem]
  have x1 : W.cell? ⟨w.heap.size, 1, none⟩ = some (.int .i64 a) := by rw [hW]; simp [go_sem]
  have x2 : W.cell? ⟨w.heap.size, 2, none⟩ = some (.int .i64 t) := by rw [hW]; simp [go_sem]
  have x3 : W.cell? ⟨w.heap.size, 3, none⟩ = some (.slice A n c) := by rw [hW]; simp [go_sem]
  have hlt : w.heap.size < W.heap.size := by have := HSW.out; omega
  have HR := Lib.hid (h.below HBW.out)
  have HL := Lib.hid h.len
  have HZ := Lib.hid (hz.later HBW.out)
  clear h hz
  have key := vsize_any a W
  go_enter Tryd.func29, Tryd.ntmps29
  go_wp2_with fail
  rw [← hW]
  clear hW
  refine key.mono ?_
  clear key
  rintro e w1 ⟨rfl, rfl⟩
  by_cases ha : sizeV a = 0
  · have HN := Lib.hid (tokB_no (x := ⟨l, a, t, nm⟩) (.inl ha))
    have hvb : (((sizeV a : Nat) : Int) == 0) = true := by rw [ha]; rfl
    clear ha
    go_wp2_with fail
    go_ret
    rw [HN.out]
    exact BytesPost.nil HBW.out
  have hvb : (((sizeV a : Nat) : Int) == 0) = false := by rw [beq_eq_false_iff_ne]; omega
  have HA := Lib.hid ha
  clear ha
  have key := vsize_any t W
  go_wp2_with fail
  refine key.mono ?_
  clear key
  rintro e w1 ⟨rfl, rfl⟩
  by_cases ht : sizeV t = 0
  · have HN := Lib.hid (tokB_no (x := ⟨l, a, t, nm⟩) (.inr (.inl ht)))
    have htb : (((sizeV t : Nat) : Int) == 0) = true := by rw [ht]; rfl
    clear ht
    go_wp2_with fail
    go_ret
    rw [HN.out]
    exact BytesPost.nil HBW.out
  have htb : (((sizeV t : Nat) : Int) == 0) = false := by rw [beq_eq_false_iff_ne]; omega
  have HT := Lib.hid ht
  clear ht
  by_cases hl : 20 < n
  · have HN := Lib.hid (tokB_no (x := ⟨l, a, t, nm⟩) (.inr (.inr (by have := HL.out; show 20 < nm.length; omega))))
    go_wp2_with fail
    go_ret
    rw [HN.out]
    exact BytesPost.nil HBW.out
  have HN : Hid (tokB ⟨l, a, t, nm⟩ = markB l :: (varB a ++ varB t ++ giveB nm)) := tokB_yes (by rintro (h | h | h); exact HA.out h; exact HT.out h; have := HL.out; exact hl (by show 20 < n; have h' : 20 < nm.length := h; omega))
  obtain ⟨V, hV⟩ : ∃ V, V = W.alloc (.cells #[.int .u8 (markB l)] 5) := ⟨_, rfl⟩
  have HBV : Hid (Below W.heap.size W V) := by rw [hV]; exact below_new _
  have HO : Hid (OwnI V W.heap.size .u8 (.slice (some ⟨W.heap.size, 0, none⟩) 1 1) [markB l]) := by
    rw [hV]; exact OwnI.fresh (xs := [markB l]) (t := 5) (Nat.le_refl _) sp_u8 (by simp)
  have HRV := Lib.hid (HR.out.below HBV.out)
  have HZV := Lib.hid (HZ.out.later HBV.out)
  have y1 := later_cell HBV.out x1 hlt
  have y2 := later_cell HBV.out x2 hlt
  have y3 := later_cell HBV.out x3 hlt
  have lV : w.heap.size < V.heap.size := by have := HBV.out.size; omega
  have lw : Hid (w.heap.size ≤ W.heap.size) := Nat.le_of_lt hlt
  have m1 := Lib.hid (varB_len a)
  have m2 := Lib.hid (varB_len t)
  have s1 := Lib.hid (sizeV_le a)
  have s2 := Lib.hid (sizeV_le t)
  have HD : Hid (Below V.heap.size V V.drew) := (Below.refl _ _).drew
  have key1 := vappend_any (some ⟨W.heap.size, 0, none⟩) 1 1 [markB l] a V.drew ((HO.out.rds (B' := 0)).below HD.out) (by omega) (HZV.out.later HD.out)
  obtain ⟨ys, hys⟩ : ∃ ys, ys = [markB l] ++ varB a := ⟨_, rfl⟩
  rw [← hys] at key1
  have HYS := Lib.hid hys
  have LYS : Hid (ys.length = 1 + sizeV a) := by show _ = _; rw [hys, List.length_append, m1.out]; rfl
  obtain ⟨zs, hzs⟩ : ∃ zs, zs = ys ++ varB t := ⟨_, rfl⟩
  have HZS := Lib.hid hzs
  have LZS : Hid (zs.length = 1 + sizeV a + sizeV t) := by show _ = _; rw [hzs, List.length_append, m2.out, LYS.out]
  clear hys hzs
  have fin : ∀ (w3 : World) (v3 : Value), OwnI w3 W.heap.size .u8 v3 (zs ++ giveB nm) → Below V.heap.size V w3 → BytesPost (tokB ⟨l, a, t, nm⟩) w (.returned v3) w3 := fun w3 v3 ho hb => by
    refine ⟨_, rfl, (ho.mono lw.out).eq ?_, (HBW.out.trans ((HBV.out.trans (hb.mono HBV.out.size)).mono lw.out))⟩
    rw [HN.out, HZS.out, HYS.out]
    simp
  have FIN := Lib.hid fin
  clear fin
  cases l with
  | true =>
    go_wp2_with fail
    rw [show W.alloc (.cells #[.int .u8 1] 5) = V from hV.symm]
    clear hV x0 x1 x2 x3
    have HS0 : Hid (V.drew.cell? ⟨w.heap.size, 1, none⟩ = some (.int .i64 a) ∧ V.drew.cell? ⟨w.heap.size, 2, none⟩ = some (.int .i64 t) ∧ V.drew.cell? ⟨w.heap.size, 3, none⟩ = some (.slice A n c)) := ⟨later_cell HD.out y1 lV, later_cell HD.out y2 lV, later_cell HD.out y3 lV⟩
    go_region_held3 (fun w' => w'.cell? ⟨w.heap.size, 1, none⟩ = some (.int .i64 a) ∧ w'.cell? ⟨w.heap.size, 2, none⟩ = some (.int .i64 t) ∧ w'.cell? ⟨w.heap.size, 3, none⟩ = some (.slice A n c)) (first | exact HS0.out | exact HS1.out | exact HS2.out | exact HS3.out | go_keep) ((first
    | (go_at_call 39
       have h0 := HD
       refine key1.mono ?_
       clear key1
       rintro e w1 ⟨v1, rfl, ho, hb⟩
       obtain ⟨A1, c1, rfl⟩ := ho.slice
       have HO1 := Lib.hid (ho.rds (B' := 0))
       have HB1 := Lib.hid (HD.out.trans hb)
       have HS1 : Hid (w1.cell? ⟨w.heap.size, 1, none⟩ = some (.int .i64 a) ∧ w1.cell? ⟨w.heap.size, 2, none⟩ = some (.int .i64 t) ∧ w1.cell? ⟨w.heap.size, 3, none⟩ = some (.slice A n c)) := ⟨later_cell HB1.out y1 lV, later_cell HB1.out y2 lV, later_cell HB1.out y3 lV⟩
       clear HD ho hb h0)
    | (go_at_call 39
       have h0 := HB1
       have key2 := vappend_any A1 _ c1 ys t w1 HO1.out (by have := LYS.out; have := s1.out; omega) (HZV.out.later HB1.out)
       rw [← HZS.out] at key2
       refine key2.mono ?_
       clear key2
       rintro e w2 ⟨v2, rfl, ho, hb⟩
       obtain ⟨A2, c2, rfl⟩ := ho.slice
       have HO2 := Lib.hid (ho.rds (B' := 0))
       have HB2 := Lib.hid (below_next HB1.out HB1.out.size hb)
       have HS2 : Hid (w2.cell? ⟨w.heap.size, 1, none⟩ = some (.int .i64 a) ∧ w2.cell? ⟨w.heap.size, 2, none⟩ = some (.int .i64 t) ∧ w2.cell? ⟨w.heap.size, 3, none⟩ = some (.slice A n c)) := ⟨later_cell HB2.out y1 lV, later_cell HB2.out y2 lV, later_cell HB2.out y3 lV⟩
       clear HB1 HO1 ho hb h0)
    | (go_at_call 44
       have h0 := HB2
       have key3 := give_any A2 _ c2 zs A n c nm w2 HO2.out (HRV.out.below HB2.out) (by have := LZS.out; have := s1.out; have := s2.out; omega) (by omega) (HZV.out.later HB2.out)
       refine key3.mono ?_
       clear key3
       rintro e w3 ⟨v3, rfl, ho, hb⟩
       have HB3 := Lib.hid (below_next HB2.out HB2.out.size hb)
       have HO3 := Lib.hid (ho.mono (Nat.le_trans HBV.out.size HB2.out.size))
       have HS3 : Hid (w3.cell? ⟨w.heap.size, 1, none⟩ = some (.int .i64 a) ∧ w3.cell? ⟨w.heap.size, 2, none⟩ = some (.int .i64 t) ∧ w3.cell? ⟨w.heap.size, 3, none⟩ = some (.slice A n c)) := ⟨later_cell HB3.out y1 lV, later_cell HB3.out y2 lV, later_cell HB3.out y3 lV⟩
       clear HB2 HO2 ho hb h0)))
    all_goals
      rename_i hHeld
      clear hHeld
      go_wp2_with fail
      go_ret
      exact FIN.out _ _ HO3.out HB3.out
  | false =>
    go_wp2_with fail
    rw [show W.alloc (.cells #[.int .u8 0] 5) = V from hV.symm]
    clear hV x0 x1 x2 x3
    have HS0 : Hid (V.drew.cell? ⟨w.heap.size, 1, none⟩ = some (.int .i64 a) ∧ V.drew.cell? ⟨w.heap.size, 2, none⟩ = some (.int .i64 t) ∧ V.drew.cell? ⟨w.heap.size, 3, none⟩ = some (.slice A n c)) := ⟨later_cell HD.out y1 lV, later_cell HD.out y2 lV, later_cell HD.out y3 lV⟩
    go_region_held3 (fun w' => w'.cell? ⟨w.heap.size, 1, none⟩ = some (.int .i64 a) ∧ w'.cell? ⟨w.heap.size, 2, none⟩ = some (.int .i64 t) ∧ w'.cell? ⟨w.heap.size, 3, none⟩ = some (.slice A n c)) (first | exact HS0.out | exact HS1.out | exact HS2.out | exact HS3.out | go_keep) ((first
    | (go_at_call 39
       have h0 := HD
       refine key1.mono ?_
       clear key1
       rintro e w1 ⟨v1, rfl, ho, hb⟩
       obtain ⟨A1, c1, rfl⟩ := ho.slice
       have HO1 := Lib.hid (ho.rds (B' := 0))
       have HB1 := Lib.hid (HD.out.trans hb)
       have HS1 : Hid (w1.cell? ⟨w.heap.size, 1, none⟩ = some (.int .i64 a) ∧ w1.cell? ⟨w.heap.size, 2, none⟩ = some (.int .i64 t) ∧ w1.cell? ⟨w.heap.size, 3, none⟩ = some (.slice A n c)) := ⟨later_cell HB1.out y1 lV, later_cell HB1.out y2 lV, later_cell HB1.out y3 lV⟩
       clear HD ho hb h0)
    | (go_at_call 39
       have h0 := HB1
       have key2 := vappend_any A1 _ c1 ys t w1 HO1.out (by have := LYS.out; have := s1.out; omega) (HZV.out.later HB1.out)
       rw [← HZS.out] at key2
       refine key2.mono ?_
       clear key2
       rintro e w2 ⟨v2, rfl, ho, hb⟩
       obtain ⟨A2, c2, rfl⟩ := ho.slice
       have HO2 := Lib.hid (ho.rds (B' := 0))
       have HB2 := Lib.hid (below_next HB1.out HB1.out.size hb)
       have HS2 : Hid (w2.cell? ⟨w.heap.size, 1, none⟩ = some (.int .i64 a) ∧ w2.cell? ⟨w.heap.size, 2, none⟩ = some (.int .i64 t) ∧ w2.cell? ⟨w.heap.size, 3, none⟩ = some (.slice A n c)) := ⟨later_cell HB2.out y1 lV, later_cell HB2.out y2 lV, later_cell HB2.out y3 lV⟩
       clear HB1 HO1 ho hb h0)
    | (go_at_call 44
       have h0 := HB2
       have key3 := give_any A2 _ c2 zs A n c nm w2 HO2.out (HRV.out.below HB2.out) (by have := LZS.out; have := s1.out; have := s2.out; omega) (by omega) (HZV.out.later HB2.out)
       refine key3.mono ?_
       clear key3
       rintro e w3 ⟨v3, rfl, ho, hb⟩
       have HB3 := Lib.hid (below_next HB2.out HB2.out.size hb)
       have HO3 := Lib.hid (ho.mono (Nat.le_trans HBV.out.size HB2.out.size))
       have HS3 : Hid (w3.cell? ⟨w.heap.size, 1, none⟩ = some (.int .i64 a) ∧ w3.cell? ⟨w.heap.size, 2, none⟩ = some (.int .i64 t) ∧ w3.cell? ⟨w.heap.size, 3, none⟩ = some (.slice A n c)) := ⟨later_cell HB3.out y1 lV, later_cell HB3.out y2 lV, later_cell HB3.out y3 lV⟩
       clear HB2 HO2 ho hb h0)))
    all_goals
      rename_i hHeld
      clear hHeld
      go_wp2_with fail
      go_ret
      exact FIN.out _ _ HO3.out HB3.out
end Go.Proofs.YtmaedahleenlgaaDoor

/- What bytes say as a token (layer 16): the program's. No condition. -/
set_option linter.unusedVariables false
set_option linter.unusedSimpArgs false
namespace Go.Proofs.YtmaedahleenlgaaDoor
open Go Go.RowKit

theorem blk_set1 {w : World} {g i : Nat} {cs : Array Value} {t : TypeId} {fr : Nat × Nat} (h : w.heap[g]? = some (.cells cs t fr)) (v : Value) : (w.setCell ⟨g, i, none⟩ v).heap[g]? = some (.cells (cs.setIfInBounds i v) t fr) := by
  rw [setCell_eq_setRow w g i cs t fr v h]
  exact setRow_heap w g _ _ t _ h
theorem blk_other1 (w : World) {g i k : Nat} (v : Value) (h : k ≠ g) : (w.setCell ⟨g, i, none⟩ v).heap[k]? = w.heap[k]? := Below.heap_setCell w ⟨g, i, none⟩ v k h
theorem setCell_size (w : World) (p : Addr) (v : Value) : (w.setCell p v).heap.size = w.heap.size := by simp [World.setCell]
theorem free_row {w : World} {g : Nat} {cs : Array Value} {t : TypeId} (h : w.heap[g]? = some (.cells cs t (0, 0))) (i : Nat) : w.frozen? ⟨g, i, none⟩ = false := by simp [World.frozen?, h]

/-- The local variables of read: the bytes left, the result, the token so far, whether all went well. -/
structure RdSt (w V : World) (A : Option Addr) (n c : Nat) (l : Bool) (a t : Int) (v : Value) (ok : Bool) : Prop where
  b : V.heap[w.heap.size]? = some (.cells #[.slice A n c] 22 (0, 0))
  r : V.heap[w.heap.size + 1]? = some (.cells #[.bool false, .int .i64 0, .int .i64 0, .slice none 0 0] 32 (0, 0))
  x : V.heap[w.heap.size + 1 + 1]? = some (.cells #[.bool l, .int .i64 a, .int .i64 t, v] 32 (0, 0))
  o : V.heap[w.heap.size + 1 + 1 + 1]? = some (.cells #[.bool ok] 4 (0, 0))
  bl : Below w.heap.size w V
theorem RdSt.below {w V V' : World} {A : Option Addr} {n c : Nat} {l : Bool} {a t : Int} {v : Value} {ok : Bool} (h : RdSt w V A n c l a t v ok) (hb : Below V.heap.size V V') : RdSt w V' A n c l a t v ok :=
  ⟨(hb.block _ (lt_of_get h.b)).trans h.b, (hb.block _ (lt_of_get h.r)).trans h.r, (hb.block _ (lt_of_get h.x)).trans h.x, (hb.block _ (lt_of_get h.o)).trans h.o, below_next h.bl h.bl.size hb⟩
theorem RdSt.cells {w V : World} {A : Option Addr} {n c : Nat} {l : Bool} {a t : Int} {v : Value} {ok : Bool} (h : RdSt w V A n c l a t v ok) :
    V.cell? ⟨w.heap.size, 0, none⟩ = some (.slice A n c) ∧ V.cell? ⟨w.heap.size + 1, 0, none⟩ = some (.bool false) ∧ V.cell? ⟨w.heap.size + 1, 1, none⟩ = some (.int .i64 0) ∧ V.cell? ⟨w.heap.size + 1, 2, none⟩ = some (.int .i64 0) ∧ V.cell? ⟨w.heap.size + 1, 3, none⟩ = some (.slice none 0 0) ∧
    V.cell? ⟨w.heap.size + 1 + 1, 0, none⟩ = some (.bool l) ∧ V.cell? ⟨w.heap.size + 1 + 1, 1, none⟩ = some (.int .i64 a) ∧ V.cell? ⟨w.heap.size + 1 + 1, 2, none⟩ = some (.int .i64 t) ∧ V.cell? ⟨w.heap.size + 1 + 1, 3, none⟩ = some v ∧ V.cell? ⟨w.heap.size + 1 + 1 + 1, 0, none⟩ = some (.bool ok) := by
  refine ⟨?_, ?_, ?_, ?_, ?_, ?_, ?_, ?_, ?_, ?_⟩
  · rw [cell_of_row V _ 0 _ _ _ h.b]; rfl
  · rw [cell_of_row V _ 0 _ _ _ h.r]; rfl
  · rw [cell_of_row V _ 1 _ _ _ h.r]; rfl
  · rw [cell_of_row V _ 2 _ _ _ h.r]; rfl
  · rw [cell_of_row V _ 3 _ _ _ h.r]; rfl
  · rw [cell_of_row V _ 0 _ _ _ h.x]; rfl
  · rw [cell_of_row V _ 1 _ _ _ h.x]; rfl
  · rw [cell_of_row V _ 2 _ _ _ h.x]; rfl
  · rw [cell_of_row V _ 3 _ _ _ h.x]; rfl
  · rw [cell_of_row V _ 0 _ _ _ h.o]; rfl
theorem RdSt.free {w V : World} {A : Option Addr} {n c : Nat} {l : Bool} {a t : Int} {v : Value} {ok : Bool} (h : RdSt w V A n c l a t v ok) :
    V.frozen? ⟨w.heap.size, 0, none⟩ = false ∧ V.frozen? ⟨w.heap.size + 1, 0, none⟩ = false ∧ V.frozen? ⟨w.heap.size + 1, 1, none⟩ = false ∧ V.frozen? ⟨w.heap.size + 1, 2, none⟩ = false ∧ V.frozen? ⟨w.heap.size + 1, 3, none⟩ = false ∧
    V.frozen? ⟨w.heap.size + 1 + 1, 1, none⟩ = false ∧ V.frozen? ⟨w.heap.size + 1 + 1, 2, none⟩ = false ∧ V.frozen? ⟨w.heap.size + 1 + 1, 3, none⟩ = false ∧ V.frozen? ⟨w.heap.size + 1 + 1 + 1, 0, none⟩ = false :=
  ⟨free_row h.b _, free_row h.r _, free_row h.r _, free_row h.r _, free_row h.r _, free_row h.x _, free_row h.x _, free_row h.x _, free_row h.o _⟩
theorem RdSt.setB {w V : World} {A : Option Addr} {n c : Nat} {l : Bool} {a t : Int} {v : Value} {ok : Bool} (h : RdSt w V A n c l a t v ok) (A' : Option Addr) (n' c' : Nat) : RdSt w (V.setCell ⟨w.heap.size, 0, none⟩ (.slice A' n' c')) A' n' c' l a t v ok :=
  ⟨blk_set1 h.b _, (blk_other1 _ _ (by omega)).trans h.r, (blk_other1 _ _ (by omega)).trans h.x, (blk_other1 _ _ (by omega)).trans h.o, h.bl.setCell (Nat.le_refl _) _⟩
theorem RdSt.setO {w V : World} {A : Option Addr} {n c : Nat} {l : Bool} {a t : Int} {v : Value} {ok : Bool} (h : RdSt w V A n c l a t v ok) (ok' : Bool) : RdSt w (V.setCell ⟨w.heap.size + 1 + 1 + 1, 0, none⟩ (.bool ok')) A n c l a t v ok' :=
  ⟨(blk_other1 _ _ (by omega)).trans h.b, (blk_other1 _ _ (by omega)).trans h.r, (blk_other1 _ _ (by omega)).trans h.x, blk_set1 h.o _, h.bl.setCell (by show w.heap.size ≤ w.heap.size + 1 + 1 + 1; omega) _⟩
theorem RdSt.setA {w V : World} {A : Option Addr} {n c : Nat} {l : Bool} {a t : Int} {v : Value} {ok : Bool} (h : RdSt w V A n c l a t v ok) (a' : Int) : RdSt w (V.setCell ⟨w.heap.size + 1 + 1, 1, none⟩ (.int .i64 a')) A n c l a' t v ok :=
  ⟨(blk_other1 _ _ (by omega)).trans h.b, (blk_other1 _ _ (by omega)).trans h.r, blk_set1 h.x _, (blk_other1 _ _ (by omega)).trans h.o, h.bl.setCell (by show w.heap.size ≤ w.heap.size + 1 + 1; omega) _⟩
theorem RdSt.setT {w V : World} {A : Option Addr} {n c : Nat} {l : Bool} {a t : Int} {v : Value} {ok : Bool} (h : RdSt w V A n c l a t v ok) (t' : Int) : RdSt w (V.setCell ⟨w.heap.size + 1 + 1, 2, none⟩ (.int .i64 t')) A n c l a t' v ok :=
  ⟨(blk_other1 _ _ (by omega)).trans h.b, (blk_other1 _ _ (by omega)).trans h.r, blk_set1 h.x _, (blk_other1 _ _ (by omega)).trans h.o, h.bl.setCell (by show w.heap.size ≤ w.heap.size + 1 + 1; omega) _⟩
theorem RdSt.setN {w V : World} {A : Option Addr} {n c : Nat} {l : Bool} {a t : Int} {v : Value} {ok : Bool} (h : RdSt w V A n c l a t v ok) (v' : Value) : RdSt w (V.setCell ⟨w.heap.size + 1 + 1, 3, none⟩ v') A n c l a t v' ok :=
  ⟨(blk_other1 _ _ (by omega)).trans h.b, (blk_other1 _ _ (by omega)).trans h.r, blk_set1 h.x _, (blk_other1 _ _ (by omega)).trans h.o, h.bl.setCell (by show w.heap.size ≤ w.heap.size + 1 + 1; omega) _⟩

/-- A cell is turned; the bytes that are read stay. -/
theorem Rds.setCell {B : Nat} {w : World} {k : IntKind} {A : Option Addr} {n c : Nat} {xs : List Int} (h : Rds B w k A n c xs) {g i : Nat} {v : Value} (hne : ∀ a, 0 < n → A = some a → a.block ≠ g) : Rds B (w.setCell ⟨g, i, none⟩ v) k A n c xs := by
  refine ⟨h.len, h.cap, h.max, fun j hj => ?_, fun p a e => ?_⟩
  · obtain ⟨ad, e, hc⟩ := h.cell j hj
    refine ⟨ad, e, ?_⟩
    rw [← hc]
    exact World.cell?_of_block (by rw [add_block]; exact blk_other1 _ _ (hne ad (by have := h.len; omega) e))
  · have hk := h.safe p a e
    have hn := hne a p e
    refine ⟨by rw [setCell_size]; exact hk.1, hk.2.imp id ?_⟩
    rintro ⟨cs, t, fr, q1, q2⟩
    exact ⟨cs, t, fr, (blk_other1 _ _ hn).trans q1, q2⟩
/-- The bytes lie below a bound. -/
def Low (B n : Nat) (A : Option Addr) : Prop := ∀ a, 0 < n → A = some a → a.block < B
theorem Rds.low {B : Nat} {w : World} {k : IntKind} {A : Option Addr} {n c : Nat} {xs : List Int} (h : Rds B w k A n c xs) : Low w.heap.size n A := fun a p e => (h.safe p a e).1
theorem Low.cut {B n : Nat} {A : Option Addr} (h : Low B n A) (s c : Nat) (hs : s ≤ n) : Low B (n - s) (cutA A s c) := fun a p e => by
  unfold cutA at e
  split at e
  · exact h a (by omega) e
  · cases hA : A with
    | none => rw [hA] at e; simp at e
    | some b =>
      rw [hA] at e
      simp only [Option.map_some, Option.some.injEq] at e
      subst e
      rw [add_block]
      exact h b (by omega) hA

/-- A local token. -/
def TbAt (w : World) (g : Nat) (l : Bool) (a t : Int) (v : Value) : Prop := w.heap[g]? = some (.cells #[.bool l, .int .i64 a, .int .i64 t, v] 32 (0, 0))
theorem TbAt.later {w w' : World} {B g : Nat} {l : Bool} {a t : Int} {v : Value} (h : TbAt w g l a t v) (hb : Below B w w') (hB : g < B) : TbAt w' g l a t v := (hb.block _ hB).trans h
theorem TbAt.frm {w w' : World} {B g : Nat} {l : Bool} {a t : Int} {v : Value} (h : TbAt w g l a t v) (hf : Frm tabO B w w') : TbAt w' g l a t v := hf.block _ _ h (.inr rfl)
theorem TbAt.lt {w : World} {g : Nat} {l : Bool} {a t : Int} {v : Value} (h : TbAt w g l a t v) : g < w.heap.size := lt_of_get h
theorem TbAt.x0 {w : World} {g : Nat} {l : Bool} {a t : Int} {v : Value} (h : TbAt w g l a t v) : w.cell? ⟨g, 0, none⟩ = some (.bool l) := by rw [cell_of_row w g 0 _ _ _ h]; rfl
theorem TbAt.x1 {w : World} {g : Nat} {l : Bool} {a t : Int} {v : Value} (h : TbAt w g l a t v) : w.cell? ⟨g, 1, none⟩ = some (.int .i64 a) := by rw [cell_of_row w g 1 _ _ _ h]; rfl
theorem TbAt.x2 {w : World} {g : Nat} {l : Bool} {a t : Int} {v : Value} (h : TbAt w g l a t v) : w.cell? ⟨g, 2, none⟩ = some (.int .i64 t) := by rw [cell_of_row w g 2 _ _ _ h]; rfl
theorem TbAt.x3 {w : World} {g : Nat} {l : Bool} {a t : Int} {v : Value} (h : TbAt w g l a t v) : w.cell? ⟨g, 3, none⟩ = some v := by rw [cell_of_row w g 3 _ _ _ h]; rfl
theorem tb_size : (Tryd.prog.info? 32).map (·.size) = some 4 := by kernel_rfl
theorem OwnI.setRow {w : World} {B : Nat} {k : IntKind} {v : Value} {xs : List Int} (h : OwnI w B k v xs) {g : Nat} (hg : g < B) (cs : Array Value) : OwnI (w.setRow g cs) B k v xs := by
  rcases h with h | ⟨g', cap, cur, t, rfl, hb, hgg, r⟩
  · exact .inl h
  · exact .inr ⟨g', cap, cur, t, rfl, hb, (setRow_other w g g' _ (by omega)).trans hgg, r⟩

set_option maxHeartbeats 3200000 in
set_option maxRecDepth 100000 in
theorem tnum_any {w V : World} {B : Nat} (A : Option Addr) (n c : Nat) (xs : List Int) (l : Bool) (a t : Int) (v : Value) (ok : Bool) (hs : RdSt w V A n c l a t v ok) (h : Rds B V .u8 A n c xs) (hlo : Low w.heap.size n A) (hb : Byt xs) :
    Calls Tryd.prog 45 #[.pointer (some ⟨w.heap.size, 0, none⟩), .pointer (some ⟨w.heap.size + 1 + 1 + 1, 0, none⟩)] V fun e V' => e = .returned (.int .i64 (readV xs).1) ∧
      RdSt w V' (cutA A (readV xs).2.1 c) (n - (readV xs).2.1) (c - (readV xs).2.1) l a t v (ok && decide ((readV xs).2.2 = 0)) ∧ Rds B V' .u8 (cutA A (readV xs).2.1 c) (n - (readV xs).2.1) (c - (readV xs).2.1) (xs.drop (readV xs).2.1) := by
  have key := vread_any A n c xs V h hb
  have HS := Lib.hid hs
  have HR := Lib.hid h
  have HLo := Lib.hid hlo
  have HL := Lib.hid h.len
  obtain ⟨y, s, e, hr⟩ : ∃ a s e, readV xs = (a, s, e) := ⟨_, _, _, rfl⟩
  have hs1 := readV_size (xs := xs)
  unfold ReadPost at key
  rw [hr] at key hs1 ⊢
  simp only at key hs1 ⊢
  have hsn : s ≤ n := by have := HL.out; omega
  obtain ⟨b0, r0, r1, r2, r3, x0, x1, x2, x3, o0⟩ := HS.out.cells
  obtain ⟨fb, f0, f1, f2, f3, g1, g2, g3, fo⟩ := HS.out.free
  clear h hlo hs hr hs1 r0 r1 r2 r3 x0 x1 x2 x3 f0 f1 f2 f3 g1 g2 g3
  have fin : ∀ ok', ok' = (ok && decide (e = 0)) → (RdSt w ((V.setCell ⟨w.heap.size + 1 + 1 + 1, 0, none⟩ (.bool ok')).setCell ⟨w.heap.size, 0, none⟩ (.slice (cutA A s c) (n - s) (c - s))) (cutA A s c) (n - s) (c - s) l a t v (ok && decide (e = 0)) ∧
      Rds B ((V.setCell ⟨w.heap.size + 1 + 1 + 1, 0, none⟩ (.bool ok')).setCell ⟨w.heap.size, 0, none⟩ (.slice (cutA A s c) (n - s) (c - s))) .u8 (cutA A s c) (n - s) (c - s) (xs.drop s)) := by
    rintro ok' rfl
    refine ⟨(HS.out.setO _).setB _ _ _, ?_⟩
    have hc := HR.out.cut hsn
    have hl := HLo.out.cut s c hsn
    exact (hc.setCell fun b p q => by have := hl b p q; omega).setCell fun b p q => by have := hl b p q; omega
  have FIN := Lib.hid fin
  clear fin
  go_enter Tryd.func45, Tryd.ntmps45
  go_wp2_with fail
  refine key.mono ?_
  clear key
  rintro e' w1 ⟨rfl, rfl⟩
  have hcutR : ∀ (k : Bool), Rds B (V.setCell ⟨w.heap.size + 1 + 1 + 1, 0, none⟩ (.bool k)) .u8 A n c xs := fun k => HR.out.setCell fun b p q => by have := HLo.out b p q; omega
  have HCR := Lib.hid hcutR
  clear hcutR
  cases ok with
  | false =>
    go_wp2_with ((with_reducible show wpList _ _ _ (Oper.mk _ (Op.slice _ _ _ _ _) _ _ _ _ :: _) _ _); refine wp_cut rfl _ _ rfl rfl rfl s rfl hsn (HCR.out _) ?_; intro hr2; clear hr2)
    go_ret
    exact ⟨rfl, FIN.out _ (by simp)⟩
  | true =>
    by_cases he : e = 0
    · have hb1 : (e == 0) = true := by simp [he]
      have HE := Lib.hid he
      clear he
      go_wp2_with ((with_reducible show wpList _ _ _ (Oper.mk _ (Op.slice _ _ _ _ _) _ _ _ _ :: _) _ _); refine wp_cut rfl _ _ rfl rfl rfl s rfl hsn (HCR.out _) ?_; intro hr2; clear hr2)
      go_ret
      exact ⟨rfl, FIN.out _ (by simp [HE.out])⟩
    · have hb1 : (e == 0) = false := by simp [he]
      have HE := Lib.hid he
      clear he
      go_wp2_with ((with_reducible show wpList _ _ _ (Oper.mk _ (Op.slice _ _ _ _ _) _ _ _ _ :: _) _ _); refine wp_cut rfl _ _ rfl rfl rfl s rfl hsn (HCR.out _) ?_; intro hr2; clear hr2)
      go_ret
      exact ⟨rfl, FIN.out _ (by simp [HE.out])⟩
end Go.Proofs.YtmaedahleenlgaaDoor

/- What bytes say as a token (layer 16): read. No condition. -/
set_option linter.unusedVariables false
set_option linter.unusedSimpArgs false
namespace Go.Proofs.YtmaedahleenlgaaDoor
open Go Go.RowKit

/-- A token as a value: its name is the call's own. -/
def TokV (x : Tok) (A : Option Addr) (c : Nat) : Value := .agg #[.bool x.later, .int .i64 x.addr, .int .i64 x.time, .slice A x.name.length c]
def KPost (r : Option Tok) (w : World) (e : Ending) (w' : World) : Prop :=
  ∃ A c, e = .returned (.tuple #[TokV (r.getD tok0) A c, .bool r.isSome]) ∧ OwnI w' w.heap.size .u8 (.slice A (r.getD tok0).name.length c) (r.getD tok0).name ∧ Below w.heap.size w w'
theorem KPost.no {r : Option Tok} {w w' : World} (h : r = none) (hb : Below w.heap.size w w') : KPost r w (.returned (.tuple #[.agg #[.bool false, .int .i64 0, .int .i64 0, .slice none 0 0], .bool false])) w' := by
  subst h
  exact ⟨none, 0, rfl, OwnI.nil _ _ _, hb⟩
theorem KPost.yes {r : Option Tok} {w w' : World} {l : Bool} {a t : Int} {nm : List Int} {A : Option Addr} {c : Nat} (h : r = some ⟨l, a, t, nm⟩) (ho : OwnI w' w.heap.size .u8 (.slice A nm.length c) nm) (hb : Below w.heap.size w w') : KPost r w (.returned (.tuple #[.agg #[.bool l, .int .i64 a, .int .i64 t, .slice A nm.length c], .bool true])) w' := by
  subst h
  exact ⟨A, c, rfl, ho, hb⟩

set_option maxHeartbeats 6400000 in
set_option maxRecDepth 100000 in
theorem tread_any {B : Nat} (A : Option Addr) (n c : Nat) (xs : List Int) (w : World) (h : Rds B w .u8 A n c xs) (hb : Byt xs) (hn : n ≤ 1000000) :
    Calls Tryd.prog 34 #[.slice A n c] w (KPost (readK xs) w) := by
  have HR := Lib.hid h
  have HL := Lib.hid h.len
  have HY := Lib.hid hb
  clear h hb
  by_cases h0 : n = 0
  · subst h0
    have HN : Hid (readK xs = none) := readK_no fun k => by have := k.1.1; have := HL.out; omega
    go_enter Tryd.func34, Tryd.ntmps34
    go_wp2_with fail
    go_returns
    exact KPost.no HN.out ((below_new _).alloc (by simp) _)
  obtain ⟨bA, oA, rfl, hcx⟩ := RdI.at_ HR.out.cell (by have := HL.out; omega)
  obtain ⟨y, hy⟩ : ∃ y, y = nth xs 0 := ⟨_, rfl⟩
  have g0 := hcx 0 (by have := HL.out; omega)
  rw [← hy, Nat.add_zero] at g0
  have hy0 : 0 ≤ y ∧ y ≤ 255 := by rw [hy]; exact HY.out _ (nth_mem (by have := HL.out; omega))
  have lA : bA < w.heap.size := (HR.out.safe (by omega) _ rfl).1
  have HYn := Lib.hid hy
  have hnb : ((n : Int) == 0) = false := by rw [beq_eq_false_iff_ne]; omega
  have hni : (0 : Int) < n := by omega
  clear hcx hy
  by_cases hy1 : 1 < y
  · have HN : Hid (readK xs = none) := readK_no fun k => by have h1 := k.1.2; rw [← HYn.out] at h1; omega
    go_enter Tryd.func34, Tryd.ntmps34
    go_wp2_with fail
    go_returns
    exact KPost.no HN.out ((below_new _).alloc (by simp) _)
  obtain ⟨l, hl⟩ : ∃ l, l = (y == 1) := ⟨_, rfl⟩
  have HLb := Lib.hid hl
  have hlb : (y == 1) = l := hl.symm
  have hnb2 : (n : Int) ≤ c := by have := HR.out.cap; omega
  clear hl
  go_enter Tryd.func34, Tryd.ntmps34
  go_wp2_with ((with_reducible show wpList _ _ _ (Oper.mk _ (Op.slice _ _ _ _ _) _ _ _ _ :: _) _ _); refine wp_cut rfl _ _ rfl rfl rfl 1 rfl (by omega) (HR.out.below ((((below_new _).alloc (by simp) _).alloc (by simp; omega) _).alloc (by simp; omega) _)) ?_; intro hr2; clear hr2)
  obtain ⟨A1, hA1⟩ : ∃ A1, A1 = cutA (some ⟨bA, oA, none⟩) 1 c := ⟨_, rfl⟩
  rw [← hA1]
  obtain ⟨V, hV⟩ : ∃ V, V = ((((w.alloc (.cells #[.slice A1 (n - 1) (c - 1)] 22)).alloc (.cells #[.bool false, .int .i64 0, .int .i64 0, .slice none 0 0] 32)).alloc (.cells #[.bool l, .int .i64 0, .int .i64 0, .slice none 0 0] 32)).alloc (.cells #[.bool true] 4)) := ⟨_, rfl⟩
  have HS : Hid (RdSt w V A1 (n - 1) (c - 1) l 0 0 (.slice none 0 0) true) := by
    rw [hV]
    refine ⟨?_, ?_, ?_, ?_, (((below_new _).alloc (by simp) _).alloc (by simp; omega) _).alloc (by simp; omega) _⟩
    · exact (Below.heap_alloc _ _ _ (by simp; try omega)).trans ((Below.heap_alloc _ _ _ (by simp; try omega)).trans ((Below.heap_alloc _ _ _ (by simp)).trans (heap_alloc_new w _)))
    · have := heap_alloc_new (w.alloc (.cells #[.slice A1 (n - 1) (c - 1)] 22)) (.cells #[.bool false, .int .i64 0, .int .i64 0, .slice none 0 0] 32)
      rw [World.size_alloc] at this
      exact (Below.heap_alloc _ _ _ (by simp; try omega)).trans ((Below.heap_alloc _ _ _ (by simp; try omega)).trans this)
    · have := heap_alloc_new ((w.alloc (.cells #[.slice A1 (n - 1) (c - 1)] 22)).alloc (.cells #[.bool false, .int .i64 0, .int .i64 0, .slice none 0 0] 32)) (.cells #[.bool l, .int .i64 0, .int .i64 0, .slice none 0 0] 32)
      rw [World.size_alloc, World.size_alloc] at this
      exact (Below.heap_alloc _ _ _ (by simp)).trans this
    · have := heap_alloc_new (((w.alloc (.cells #[.slice A1 (n - 1) (c - 1)] 22)).alloc (.cells #[.bool false, .int .i64 0, .int .i64 0, .slice none 0 0] 32)).alloc (.cells #[.bool l, .int .i64 0, .int .i64 0, .slice none 0 0] 32)) (.cells #[.bool true] 4)
      rw [World.size_alloc, World.size_alloc, World.size_alloc] at this
      exact this
  have HR1 : Hid (Rds B V .u8 A1 (n - 1) (c - 1) (xs.drop 1)) := by rw [hA1]; exact (HR.out.below HS.out.bl).cut (by omega)
  have HLo : Hid (Low w.heap.size (n - 1) A1) := by rw [hA1]; exact HR.out.low.cut 1 c (by omega)
  have key := tnum_any _ _ _ _ _ _ _ _ _ HS.out HR1.out HLo.out (byt_drop HY.out 1)
  rw [← hV]
  clear hV hA1 g0
  refine key.mono ?_
  clear key
  rintro e V1 ⟨rfl, hs, hr⟩
  obtain ⟨a1, s1, e1, k1⟩ : ∃ a s e, kd1 xs = (a, s, e) := ⟨_, _, _, rfl⟩
  have hs1 := readV_size (xs := xs.drop 1)
  rw [show readV (xs.drop 1) = (a1, s1, e1) from k1] at hs hr hs1 ⊢
  simp only [List.length_drop] at hs hr hs1 ⊢
  have K1 := Lib.hid k1
  have hs1n : s1 ≤ n - 1 := by have := HL.out; omega
  obtain ⟨A2, hA2⟩ : ∃ A2, A2 = cutA A1 s1 (c - 1) := ⟨_, rfl⟩
  have HLo2 : Hid (Low w.heap.size (n - 1 - s1) A2) := by rw [hA2]; exact HLo.out.cut s1 (c - 1) hs1n
  rw [← hA2] at hs hr
  have HS1 := Lib.hid hs
  have HR2 := Lib.hid hr
  have q1 := hs.cells.2.2.2.2.2.2.1
  have f1 := hs.free.2.2.2.2.2.1
  clear hs hr hs1 k1 hA2 HS HR1 HLo
  go_wp2_with fail
  obtain ⟨V2, hV2⟩ : ∃ V2, V2 = V1.setCell ⟨w.heap.size + 1 + 1, 1, none⟩ (.int .i64 a1) := ⟨_, rfl⟩
  have HS2 : Hid (RdSt w V2 A2 (n - 1 - s1) (c - 1 - s1) l a1 0 (.slice none 0 0) (true && decide (e1 = 0))) := by rw [hV2]; exact HS1.out.setA a1
  have HR3 : Hid (Rds B V2 .u8 A2 (n - 1 - s1) (c - 1 - s1) (xs.drop (1 + s1))) := by
    rw [hV2]
    have := HR2.out
    rw [List.drop_drop] at this
    exact this.setCell fun b p q => by have := HLo2.out b p q; omega
  have key := tnum_any _ _ _ _ _ _ _ _ _ HS2.out HR3.out HLo2.out (byt_drop HY.out _)
  rw [← hV2]
  clear hV2 q1 f1 HS1 HR2
  refine key.mono ?_
  clear key
  rintro e V3 ⟨rfl, hs, hr⟩
  obtain ⟨a2, s2, e2, k2⟩ : ∃ a s e, kd2 xs = (a, s, e) := ⟨_, _, _, rfl⟩
  have hs2 := readV_size (xs := xs.drop (1 + s1))
  have k2' : readV (xs.drop (1 + s1)) = (a2, s2, e2) := by have h := k2; unfold kd2 at h; rw [K1.out] at h; exact h
  rw [k2'] at hs hr hs2 ⊢
  simp only [List.length_drop] at hs hr hs2 ⊢
  have K2 := Lib.hid k2
  have hs2n : s2 ≤ n - 1 - s1 := by have := HL.out; omega
  obtain ⟨A3, hA3⟩ : ∃ A3, A3 = cutA A2 s2 (c - 1 - s1) := ⟨_, rfl⟩
  have HLo3 : Hid (Low w.heap.size (n - 1 - s1 - s2) A3) := by rw [hA3]; exact HLo2.out.cut s2 _ hs2n
  obtain ⟨ok, hok⟩ : ∃ ok, ok = (true && decide (e1 = 0) && decide (e2 = 0)) := ⟨_, rfl⟩
  rw [← hA3, ← hok] at hs
  rw [← hA3] at hr
  have HOK := Lib.hid hok
  have HS3 := Lib.hid hs
  have HR4 := Lib.hid hr
  have q1 := hs.cells.2.2.2.2.2.2.2.1
  have f1 := hs.free.2.2.2.2.2.2.1
  have q0 := hs.cells.1
  clear hs hr hs2 k2 k2' hA3 HS2 HR3 HLo2 hok
  obtain ⟨V4, hV4⟩ : ∃ V4, V4 = V3.setCell ⟨w.heap.size + 1 + 1, 2, none⟩ (.int .i64 a2) := ⟨_, rfl⟩
  have HS4 : Hid (RdSt w V4 A3 (n - 1 - s1 - s2) (c - 1 - s1 - s2) l a1 a2 (.slice none 0 0) ok) := by rw [hV4]; exact HS3.out.setT a2
  have HR5 : Hid (Rds B V4 .u8 A3 (n - 1 - s1 - s2) (c - 1 - s1 - s2) (xs.drop (1 + s1 + s2))) := by
    rw [hV4]
    have := HR4.out
    rw [List.drop_drop] at this
    exact this.setCell fun b p q => by have := HLo3.out b p q; omega
  have key := vtake_any _ _ _ _ _ HR5.out (byt_drop HY.out _) (by omega)
  go_wp2_with fail
  rw [← hV4]
  clear hV4 q1 f1 q0 HS3 HR4
  refine key.mono ?_
  clear key
  rintro e V5 ⟨v7, v8, rfl, ho7, ho8, hb⟩
  obtain ⟨nm, rs, e3, k3⟩ : ∃ a b e, kd3 xs = (a, b, e) := ⟨_, _, _, rfl⟩
  have k3' : takeV (xs.drop (1 + s1 + s2)) = (nm, rs, e3) := by have h := k3; unfold kd3 at h; rw [K1.out, K2.out] at h; exact h
  rw [k3'] at ho7 ho8 ⊢
  simp only at ho7 ho8 ⊢
  have K3 := Lib.hid k3
  obtain ⟨A7, c7, rfl⟩ := ho7.slice
  obtain ⟨A8, c8, rfl⟩ := ho8.slice
  have HS5 := Lib.hid (HS4.out.below hb)
  have HB4 : Hid (w.heap.size + 1 + 1 < V4.heap.size) := lt_of_get HS4.out.x
  have HO7 := Lib.hid ho7
  obtain ⟨-, r0, r1, r2, r3, x0, x1, x2, x3, o0⟩ := HS5.out.cells
  obtain ⟨-, f0, f11, f2, f3, -, -, f1, -⟩ := HS5.out.free
  clear ho7 ho8 hb k3 k3' HS4 HR5
  obtain ⟨V6, hV6⟩ : ∃ V6, V6 = V5.setCell ⟨w.heap.size + 1 + 1, 3, none⟩ (.slice A7 nm.length c7) := ⟨_, rfl⟩
  have HS6 : Hid (RdSt w V6 A3 (n - 1 - s1 - s2) (c - 1 - s1 - s2) l a1 a2 (.slice A7 nm.length c7) ok) := by rw [hV6]; exact HS5.out.setN _
  have HO6 : Hid (OwnI V6 V4.heap.size .u8 (.slice A7 nm.length c7) nm) := by rw [hV6]; exact HO7.out.setBelow HB4.out _
  have HRb := Lib.hid HS6.out.r
  have HBb := Lib.hid HS6.out.bl
  have HOb := Lib.hid HO6.out
  rw [hV6] at HRb HBb HOb
  clear hV6 HS6 HO6 HS5 HO7 r0 r1 r2 r3 f0 f11 f2 f3
  have no : ¬ kdOk xs → Hid (readK xs = none) := fun h => readK_no h
  by_cases hk : ok = true
  rotate_left
  · have HN := no fun k => by
      rw [HOK.out] at hk
      have h1 := k.2.1
      have h2 := k.2.2.1
      rw [K1.out] at h1
      rw [K2.out] at h2
      simp only at h1 h2
      simp [h1, h2] at hk
    have hkf : ok = false := by simpa using hk
    subst hkf
    clear hk no
    go_wp2_with ((with_reducible show wpList _ _ _ (Oper.mk _ (Op.store 32 (.tmp 2) _) _ _ _ _ :: _) _ _); (refine wp_store_row rfl rfl _ _ _ rfl (w.heap.size + 1) _ _ 32 rfl rfl tb_size HRb.out rfl (by simp [Value.oneCell']) ?_))
    obtain ⟨u, hu⟩ : ∃ u, u = World.setRow (V5.setCell ⟨w.heap.size + 1 + 1, 3, none⟩ (.slice A7 nm.length c7)) (w.heap.size + 1) #[.bool false, .int .i64 0, .int .i64 0, .slice none 0 0] := ⟨_, rfl⟩
    rw [← hu]
    have hux : TbAt u (w.heap.size + 1) false 0 0 (.slice none 0 0) := by rw [hu]; exact setRow_heap _ (w.heap.size + 1) _ _ _ _ HRb.out
    have HBu : Hid (Below w.heap.size w u) := by rw [hu]; exact below_setRow HBb.out (Nat.le_succ _) _
    have HOu : Hid (OwnI u w.heap.size .u8 (.slice A7 nm.length c7) nm) := by rw [hu]; exact (HOb.out.setRow (by have := HB4.out; omega) _).mono (by have := HB4.out; omega)
    have z0 := hux.x0
    have z1 := hux.x1
    have z2 := hux.x2
    have z3 := hux.x3
    clear hu hux
    refine bodyPost_ret (v := .tuple #[.agg #[.bool false, .int .i64 0, .int .i64 0, .slice none 0 0], .bool false]) (by simp [results, Tryd.results34, go_sem, z0, z1, z2, z3]) rfl ?_
    exact KPost.no HN.out HBu.out
  subst hk
  by_cases he3 : e3 = 0
  rotate_left
  · have HN := no fun k => by have h := k.2.2.2.1; rw [K3.out] at h; exact he3 h
    have hb1 : (e3 != 0) = true := by simp [he3]
    clear he3 no
    go_wp2_with ((with_reducible show wpList _ _ _ (Oper.mk _ (Op.store 32 (.tmp 2) _) _ _ _ _ :: _) _ _); (refine wp_store_row rfl rfl _ _ _ rfl (w.heap.size + 1) _ _ 32 rfl rfl tb_size HRb.out rfl (by simp [Value.oneCell']) ?_))
    obtain ⟨u, hu⟩ : ∃ u, u = World.setRow (V5.setCell ⟨w.heap.size + 1 + 1, 3, none⟩ (.slice A7 nm.length c7)) (w.heap.size + 1) #[.bool false, .int .i64 0, .int .i64 0, .slice none 0 0] := ⟨_, rfl⟩
    rw [← hu]
    have hux : TbAt u (w.heap.size + 1) false 0 0 (.slice none 0 0) := by rw [hu]; exact setRow_heap _ (w.heap.size + 1) _ _ _ _ HRb.out
    have HBu : Hid (Below w.heap.size w u) := by rw [hu]; exact below_setRow HBb.out (Nat.le_succ _) _
    have HOu : Hid (OwnI u w.heap.size .u8 (.slice A7 nm.length c7) nm) := by rw [hu]; exact (HOb.out.setRow (by have := HB4.out; omega) _).mono (by have := HB4.out; omega)
    have z0 := hux.x0
    have z1 := hux.x1
    have z2 := hux.x2
    have z3 := hux.x3
    clear hu hux
    refine bodyPost_ret (v := .tuple #[.agg #[.bool false, .int .i64 0, .int .i64 0, .slice none 0 0], .bool false]) (by simp [results, Tryd.results34, go_sem, z0, z1, z2, z3]) rfl ?_
    exact KPost.no HN.out HBu.out
  subst he3
  by_cases hrs : rs.length = 0
  rotate_left
  · have HN := no fun k => by have h := k.2.2.2.2.1; rw [K3.out] at h; exact hrs h
    have hb1 : 0 < (rs.length : Int) := by omega
    have hb2 : 0 < rs.length := by omega
    clear hrs no
    go_wp2_with ((with_reducible show wpList _ _ _ (Oper.mk _ (Op.store 32 (.tmp 2) _) _ _ _ _ :: _) _ _); (refine wp_store_row rfl rfl _ _ _ rfl (w.heap.size + 1) _ _ 32 rfl rfl tb_size HRb.out rfl (by simp [Value.oneCell']) ?_))
    obtain ⟨u, hu⟩ : ∃ u, u = World.setRow (V5.setCell ⟨w.heap.size + 1 + 1, 3, none⟩ (.slice A7 nm.length c7)) (w.heap.size + 1) #[.bool false, .int .i64 0, .int .i64 0, .slice none 0 0] := ⟨_, rfl⟩
    rw [← hu]
    have hux : TbAt u (w.heap.size + 1) false 0 0 (.slice none 0 0) := by rw [hu]; exact setRow_heap _ (w.heap.size + 1) _ _ _ _ HRb.out
    have HBu : Hid (Below w.heap.size w u) := by rw [hu]; exact below_setRow HBb.out (Nat.le_succ _) _
    have HOu : Hid (OwnI u w.heap.size .u8 (.slice A7 nm.length c7) nm) := by rw [hu]; exact (HOb.out.setRow (by have := HB4.out; omega) _).mono (by have := HB4.out; omega)
    have z0 := hux.x0
    have z1 := hux.x1
    have z2 := hux.x2
    have z3 := hux.x3
    clear hu hux
    refine bodyPost_ret (v := .tuple #[.agg #[.bool false, .int .i64 0, .int .i64 0, .slice none 0 0], .bool false]) (by simp [results, Tryd.results34, go_sem, z0, z1, z2, z3]) rfl ?_
    exact KPost.no HN.out HBu.out
  have hrs' : ¬ 0 < rs.length := by omega
  by_cases hnm : nm.length ≤ 20
  rotate_left
  · have HN := no fun k => by have h := k.2.2.2.2.2; rw [K3.out] at h; exact hnm h
    have hb1 : 20 < (nm.length : Int) := by omega
    clear hnm no
    go_wp2_with ((with_reducible show wpList _ _ _ (Oper.mk _ (Op.store 32 (.tmp 2) _) _ _ _ _ :: _) _ _); (refine wp_store_row rfl rfl _ _ _ rfl (w.heap.size + 1) _ _ 32 rfl rfl tb_size HRb.out rfl (by simp [Value.oneCell']) ?_))
    obtain ⟨u, hu⟩ : ∃ u, u = World.setRow (V5.setCell ⟨w.heap.size + 1 + 1, 3, none⟩ (.slice A7 nm.length c7)) (w.heap.size + 1) #[.bool false, .int .i64 0, .int .i64 0, .slice none 0 0] := ⟨_, rfl⟩
    rw [← hu]
    have hux : TbAt u (w.heap.size + 1) false 0 0 (.slice none 0 0) := by rw [hu]; exact setRow_heap _ (w.heap.size + 1) _ _ _ _ HRb.out
    have HBu : Hid (Below w.heap.size w u) := by rw [hu]; exact below_setRow HBb.out (Nat.le_succ _) _
    have HOu : Hid (OwnI u w.heap.size .u8 (.slice A7 nm.length c7) nm) := by rw [hu]; exact (HOb.out.setRow (by have := HB4.out; omega) _).mono (by have := HB4.out; omega)
    have z0 := hux.x0
    have z1 := hux.x1
    have z2 := hux.x2
    have z3 := hux.x3
    clear hu hux
    refine bodyPost_ret (v := .tuple #[.agg #[.bool false, .int .i64 0, .int .i64 0, .slice none 0 0], .bool false]) (by simp [results, Tryd.results34, go_sem, z0, z1, z2, z3]) rfl ?_
    exact KPost.no HN.out HBu.out
  · have HN : Hid (readK xs = some ⟨l, a1, a2, nm⟩) := by
      show _ = _
      have hok : (true && decide (e1 = 0) && decide (e2 = 0)) = true := HOK.out.symm
      simp only [Bool.true_and, Bool.and_eq_true, decide_eq_true_eq] at hok
      rw [readK_yes ⟨⟨by have := HL.out; omega, by rw [← HYn.out]; exact hy1⟩, by rw [K1.out]; exact hok.1, by rw [K2.out]; exact hok.2, by rw [K3.out], by rw [K3.out]; exact hrs, by rw [K3.out]; exact hnm⟩, K1.out, K2.out, K3.out, ← HYn.out]
      have : decide (y = 1) = l := by rw [HLb.out]; rfl
      rw [this]
    have hb1 : ¬ 20 < (nm.length : Int) := by omega
    clear hnm no
    go_wp2_with ((with_reducible show wpList _ _ _ (Oper.mk _ (Op.store 32 (.tmp 2) _) _ _ _ _ :: _) _ _); (refine wp_store_row rfl rfl _ _ _ rfl (w.heap.size + 1) _ _ 32 rfl rfl tb_size HRb.out rfl (by simp [Value.oneCell']) ?_))
    obtain ⟨u, hu⟩ : ∃ u, u = World.setRow (V5.setCell ⟨w.heap.size + 1 + 1, 3, none⟩ (.slice A7 nm.length c7)) (w.heap.size + 1) #[.bool l, .int .i64 a1, .int .i64 a2, .slice A7 nm.length c7] := ⟨_, rfl⟩
    rw [← hu]
    have hux : TbAt u (w.heap.size + 1) l a1 a2 (.slice A7 nm.length c7) := by rw [hu]; exact setRow_heap _ (w.heap.size + 1) _ _ _ _ HRb.out
    have HBu : Hid (Below w.heap.size w u) := by rw [hu]; exact below_setRow HBb.out (Nat.le_succ _) _
    have HOu : Hid (OwnI u w.heap.size .u8 (.slice A7 nm.length c7) nm) := by rw [hu]; exact (HOb.out.setRow (by have := HB4.out; omega) _).mono (by have := HB4.out; omega)
    have z0 := hux.x0
    have z1 := hux.x1
    have z2 := hux.x2
    have z3 := hux.x3
    clear hu hux
    refine bodyPost_ret (v := .tuple #[.agg #[.bool l, .int .i64 a1, .int .i64 a2, .slice A7 nm.length c7], .bool true]) (by simp [results, Tryd.results34, go_sem, z0, z1, z2, z3]) rfl ?_
    exact KPost.yes HN.out HOu.out HBu.out
end Go.Proofs.YtmaedahleenlgaaDoor

/- token.Mint, Look and Check on a table (layer 16). No condition but the table of bit places. Printed by gen_token4.py. -/
set_option linter.unusedVariables false
set_option linter.unusedSimpArgs false
namespace Go.Proofs.YtmaedahleenlgaaDoor
open Go Go.RowKit Go.WideMaps

def TlkPost (x : Tok) (err : Int) (w : World) (e : Ending) (w' : World) : Prop :=
  ∃ A c, e = .returned (.tuple #[TokV x A c, .int .i64 err]) ∧ OwnI w' w.heap.size .u8 (.slice A x.name.length c) x.name ∧ Below w.heap.size w w'
theorem TlkPost.no {x : Tok} {err : Int} {w w' : World} (h : x = tok0) (hb : Below w.heap.size w w') : TlkPost x err w (.returned (.tuple #[.agg #[.bool false, .int .i64 0, .int .i64 0, .slice none 0 0], .int .i64 err])) w' := by
  subst h
  exact ⟨none, 0, rfl, OwnI.nil _ _ _, hb⟩
theorem TlkPost.yes {x : Tok} {err : Int} {w w' : World} {l : Bool} {a t : Int} {nm : List Int} {A : Option Addr} {c : Nat} (h : x = ⟨l, a, t, nm⟩) (ho : OwnI w' w.heap.size .u8 (.slice A nm.length c) nm) (hb : Below w.heap.size w w') : TlkPost x err w (.returned (.tuple #[.agg #[.bool l, .int .i64 a, .int .i64 t, .slice A nm.length c], .int .i64 err])) w' := by
  subst h
  exact ⟨A, c, rfl, ho, hb⟩
theorem nodeT_text {T : List Nd} (hw : WfT T) (h : Int) : (nodeT T h).text.size ≤ 2048 := by
  unfold nodeT
  cases e : getT T h with
  | none => exact Nat.zero_le _
  | some n => exact (hw.get e).text

set_option maxHeartbeats 6400000 in
set_option maxRecDepth 100000 in
theorem tlook_any {B tb : Nat} {T : List Nd} (key h : Int) (w : World) (ht : IsTab B w tb T) (hh : Fit h) :
    Calls Tryd.prog 17 #[.pointer (some ⟨tb, 0, none⟩), .int .i64 key, .int .i64 h] w (TlkPost (lookX T key h) (lookE T key h) w) := by
  obtain ⟨X, hX⟩ : ∃ X, X = lookX T key h := ⟨_, rfl⟩
  obtain ⟨E, hE⟩ : ∃ E, E = lookE T key h := ⟨_, rfl⟩
  rw [← hX, ← hE]
  have HX := Lib.hid hX
  have HE := Lib.hid hE
  clear hX hE
  have HWf := Lib.hid ht.1
  obtain ⟨W0, hW0⟩ : ∃ W, W = w.alloc (.cells #[.bool false, .int .i64 0, .int .i64 0, .slice none 0 0] 32) := ⟨_, rfl⟩
  have HB0 : Hid (Below w.heap.size w W0) := by rw [hW0]; exact below_new _
  have HG0 : Hid (TbAt W0 w.heap.size false 0 0 (.slice none 0 0)) := by rw [hW0]; exact heap_alloc_new w _
  have HS0 : Hid (W0.heap.size = w.heap.size + 1) := by rw [hW0]; show _ = _; simp
  have hcv := run_const_bytes W0 #[.int .u8 116, .int .u8 111, .int .u8 107, .int .u8 101, .int .u8 110] 5 5
  rw [HS0.out] at hcv
  rw [hW0] at hcv
  have hconv := Lib.hid hcv
  clear hcv
  obtain ⟨V, hW⟩ : ∃ V, V = (w.alloc (.cells #[.bool false, .int .i64 0, .int .i64 0, .slice none 0 0] 32)).alloc (.cells #[.int .u8 116, .int .u8 111, .int .u8 107, .int .u8 101, .int .u8 110] 5 (5, 6)) := ⟨_, rfl⟩
  have hr : Rds B V .u8 (some ⟨w.heap.size + 1, 0, none⟩) 5 5 tokenL := by
    rw [hW, ← hW0]
    exact rds_marked (xs := tokenL) (t := 5) (5, 6) HS0.out (by decide) _ rfl 5 rfl (by decide)
  have hBV : Below W0.heap.size W0 V := by rw [hW, ← hW0]; exact below_new _
  have HBV := Lib.hid (below_next HB0.out HB0.out.size hBV)
  have HTV := Lib.hid ((ht.below HB0.out).below hBV)
  have HGV := Lib.hid (HG0.out.later hBV HG0.out.lt)
  have key1 := open_all key h (some ⟨w.heap.size + 1, 0, none⟩) 5 5 tokenL V HTV.out hr hh
  rw [token_str] at key1
  clear ht hh hr hBV HG0 hW0 HS0 HB0
  go_enter Tryd.func17, Tryd.ntmps17
  go_wp2_with ((with_reducible show wpList _ _ _ (Oper.mk _ (Op.convert 22 22 _) _ _ _ _ :: _) _ _); refine wp_convert rfl _ _ _ rfl rfl hconv.out ?_)
  rw [← hW]
  clear hW hconv
  refine key1.mono ?_
  clear key1
  rintro e w2 ⟨rfl, hb⟩
  obtain ⟨c, cok, hc⟩ : ∃ c ok, openV T key tokenS h = (c, ok) := ⟨_, _, rfl⟩
  have hcr := openV_range HWf.out key h tokenS
  rw [hc] at hcr ⊢
  simp only at hcr ⊢
  obtain ⟨tn, htn⟩ : ∃ n, n = nodeT T c := ⟨_, rfl⟩
  have HLK : Hid (lookK T key h = if tn.kind = 1 then readK (numsL tn.text) else none) := by show _ = _; unfold lookK nodeK; rw [hc, htn]
  have htx : tn.text.size ≤ 2048 := by rw [htn]; exact nodeT_text HWf.out c
  have HT2 := Lib.hid (HTV.out.below hb)
  have HG2 := Lib.hid (HGV.out.later hb HGV.out.lt)
  have HB2 := Lib.hid (below_next HBV.out HBV.out.size hb)
  have key1 := look_any c w2 HT2.out (by omega) (by omega)
  clear hc hb HTV HGV HBV hcr
  go_wp2_with fail
  refine key1.mono ?_
  clear key1
  rintro e v3 ⟨P3, d3, rfl, ho3, hb3⟩
  rw [← htn] at ho3 ⊢
  clear htn
  obtain ⟨w3, hw3⟩ : ∃ w3, w3 = v3.alloc (.cells #[.int .i64 tn.kind, .string tn.text, .slice P3 tn.parts.length d3] 40) := ⟨_, rfl⟩
  have hbn : Below v3.heap.size v3 w3 := by rw [hw3]; exact below_new _
  have hb5 := below_next hb3 hb3.size hbn
  have e0 : w3.cell? ⟨v3.heap.size, 0, none⟩ = some (.int .i64 tn.kind) := by rw [hw3]; simp [go_sem]
  have l3 : v3.heap.size < w3.heap.size := by rw [hw3]; simp
  have HG3 := Lib.hid (HG2.out.later hb5 HG2.out.lt)
  have HB3 := Lib.hid (below_next HB2.out HB2.out.size hb5)
  clear ho3 hb3 hbn hb5 HT2 HG2 HB2
  go_wp2_with ((with_reducible show wpList _ _ _ (Oper.mk _ (Op.convert 9 22 _) _ _ _ _ :: _) _ _); refine wp_str_bytes rfl _ rfl tn.text rfl (by omega) ?_)
  intro cb w5 hrb hb
  have hS3 : v3.heap.size + 1 = w3.heap.size := by rw [hw3]; simp
  rw [← hw3, hS3] at hb
  clear hS3 hw3
  replace e0 := later_cell hb e0 l3
  have HG5 := Lib.hid (HG3.out.later hb HG3.out.lt)
  have HB5 := Lib.hid (below_next HB3.out HB3.out.size hb)
  have l5 : v3.heap.size < w5.heap.size := by have := hb.size; omega
  have key1 := tread_any _ _ _ _ w5 (hrb B) (numsL_byt tn.text) (by omega)
  obtain ⟨R, hR⟩ : ∃ R, R = readK (numsL tn.text) := ⟨_, rfl⟩
  rw [← hR] at key1
  have HLK2 : Hid (lookK T key h = if tn.kind = 1 then R else none) := by show _ = _; rw [HLK.out, hR]
  clear hrb hb HG3 HB3 HLK htx hR l3
  go_wp2_with fail
  refine key1.mono ?_
  clear key1
  rintro e w6 ⟨A6, c6, rfl, ho, hb⟩
  obtain ⟨⟨xl, xa, xt, xn⟩, hx⟩ : ∃ x, R.getD tok0 = x := ⟨_, rfl⟩
  rw [hx] at ho ⊢
  simp only [TokV] at ho ⊢
  replace e0 := later_cell hb e0 l5
  have HG6 := Lib.hid (HG5.out.later hb HG5.out.lt)
  have HB6 := Lib.hid (below_next HB5.out HB5.out.size hb)
  have l6 : v3.heap.size < w6.heap.size := by have := hb.size; omega
  obtain ⟨w7, hw7⟩ : ∃ w7, w7 = w6.alloc (.cells #[.bool xl, .int .i64 xa, .int .i64 xt, .slice A6 xn.length c6] 32) := ⟨_, rfl⟩
  have hbn : Below w6.heap.size w6 w7 := by rw [hw7]; exact below_new _
  have HX7 : Hid (TbAt w7 w6.heap.size xl xa xt (.slice A6 xn.length c6)) := by rw [hw7]; exact heap_alloc_new w6 _
  have HG7 := Lib.hid (HG6.out.later hbn HG6.out.lt)
  have HB7 := Lib.hid (below_next HB6.out HB6.out.size hbn)
  have HO7 := Lib.hid (ho.below hbn)
  have k0 := later_cell hbn e0 l6
  have y0 := HX7.out.x0
  have y1 := HX7.out.x1
  have y2 := HX7.out.x2
  have y3 := HX7.out.x3
  have l7 : w.heap.size < w5.heap.size := HG5.out.lt
  clear hbn ho hb HG6 HB6 HG5 HB5 l5
  have HRX := Lib.hid hx
  clear hx
  cases R with
  | none =>
    have hno : lookK T key h = none := by rw [HLK2.out]; split <;> rfl
    have HN : Hid (X = tok0 ∧ E = 14) := by
      refine ⟨?_, ?_⟩
      · rw [HX.out]; unfold lookX; rw [hno]; rfl
      · rw [HE.out]; unfold lookE; rw [hno]; rfl
    clear hno
    go_wp2_with ((with_reducible show wpList _ _ _ (Oper.mk _ (Op.store 32 (.tmp 6) _) _ _ _ _ :: _) _ _); (rw [← hw7]); (refine wp_store_row rfl rfl _ _ _ rfl w.heap.size _ _ 32 rfl rfl tb_size HG7.out rfl (by simp [Value.oneCell']) ?_))
    obtain ⟨u, hu⟩ : ∃ u, u = World.setRow w7 w.heap.size #[.bool false, .int .i64 0, .int .i64 0, .slice none 0 0] := ⟨_, rfl⟩
    rw [← hu]
    have hux : TbAt u w.heap.size false 0 0 (.slice none 0 0) := by rw [hu]; exact setRow_heap _ w.heap.size _ _ _ _ HG7.out
    have HBu : Hid (Below w.heap.size w u) := by rw [hu]; exact below_setRow HB7.out (Nat.le_refl _) _
    have z0 := hux.x0
    have z1 := hux.x1
    have z2 := hux.x2
    have z3 := hux.x3
    clear hu hux
    refine bodyPost_ret (v := .tuple #[.agg #[.bool false, .int .i64 0, .int .i64 0, .slice none 0 0], .int .i64 14]) (by simp [results, Tryd.results17, go_sem, z0, z1, z2, z3]) rfl ?_
    rw [HN.out.2]; exact TlkPost.no HN.out.1 HBu.out
  | some r =>
    by_cases hk1 : tn.kind = 1
    rotate_left
    · have hno : lookK T key h = none := by rw [HLK2.out, if_neg hk1]
      have HN : Hid (X = tok0 ∧ E = 14) := by
        refine ⟨?_, ?_⟩
        · rw [HX.out]; unfold lookX; rw [hno]; rfl
        · rw [HE.out]; unfold lookE; rw [hno]; rfl
      have hkb : (tn.kind != 1) = true := by simp [hk1]
      clear hk1 hno
      go_wp2_with ((with_reducible show wpList _ _ _ (Oper.mk _ (Op.store 32 (.tmp 6) _) _ _ _ _ :: _) _ _); (try rw [← hw7]); (refine wp_store_row rfl rfl _ _ _ rfl w.heap.size _ _ 32 rfl rfl tb_size HG7.out rfl (by simp [Value.oneCell']) ?_))
      obtain ⟨u, hu⟩ : ∃ u, u = World.setRow w7 w.heap.size #[.bool false, .int .i64 0, .int .i64 0, .slice none 0 0] := ⟨_, rfl⟩
      rw [← hu]
      have hux : TbAt u w.heap.size false 0 0 (.slice none 0 0) := by rw [hu]; exact setRow_heap _ w.heap.size _ _ _ _ HG7.out
      have HBu : Hid (Below w.heap.size w u) := by rw [hu]; exact below_setRow HB7.out (Nat.le_refl _) _
      have z0 := hux.x0
      have z1 := hux.x1
      have z2 := hux.x2
      have z3 := hux.x3
      clear hu hux
      refine bodyPost_ret (v := .tuple #[.agg #[.bool false, .int .i64 0, .int .i64 0, .slice none 0 0], .int .i64 14]) (by simp [results, Tryd.results17, go_sem, z0, z1, z2, z3]) rfl ?_
      rw [HN.out.2]; exact TlkPost.no HN.out.1 HBu.out
    have hkb : (tn.kind != 1) = false := by simp [hk1]
    have hyes : lookK T key h = some r := by rw [HLK2.out, if_pos hk1]
    have HN : Hid (X = ⟨xl, xa, xt, xn⟩ ∧ E = 0) := by
      refine ⟨?_, ?_⟩
      · rw [HX.out]; unfold lookX; rw [hyes]; exact HRX.out
      · rw [HE.out]; unfold lookE; rw [hyes]; rfl
    clear hk1 hyes
    go_wp2_with ((with_reducible show wpList _ _ _ (Oper.mk _ (Op.store 32 (.tmp 6) _) _ _ _ _ :: _) _ _); (try rw [← hw7]); (refine wp_store_row rfl rfl _ _ _ rfl w.heap.size _ _ 32 rfl rfl tb_size HG7.out rfl (by simp [Value.oneCell']) ?_))
    obtain ⟨u, hu⟩ : ∃ u, u = World.setRow w7 w.heap.size #[.bool xl, .int .i64 xa, .int .i64 xt, .slice A6 xn.length c6] := ⟨_, rfl⟩
    rw [← hu]
    have hux : TbAt u w.heap.size xl xa xt (.slice A6 xn.length c6) := by rw [hu]; exact setRow_heap _ w.heap.size _ _ _ _ HG7.out
    have HBu : Hid (Below w.heap.size w u) := by rw [hu]; exact below_setRow HB7.out (Nat.le_refl _) _
    have HOu : Hid (OwnI u w.heap.size .u8 (.slice A6 xn.length c6) xn) := by rw [hu]; exact (HO7.out.setRow l7 _).mono (Nat.le_of_lt l7)
    have z0 := hux.x0
    have z1 := hux.x1
    have z2 := hux.x2
    have z3 := hux.x3
    clear hu hux
    refine bodyPost_ret (v := .tuple #[.agg #[.bool xl, .int .i64 xa, .int .i64 xt, .slice A6 xn.length c6], .int .i64 0]) (by simp [results, Tryd.results17, go_sem, z0, z1, z2, z3]) rfl ?_
    rw [HN.out.2]; exact TlkPost.yes HN.out.1 HOu.out HBu.out
end Go.Proofs.YtmaedahleenlgaaDoor

/- token.Check and Mint on a table (layer 16). No condition but the table of bit places. Printed by gen_token5.py. -/
set_option linter.unusedVariables false
set_option linter.unusedSimpArgs false
namespace Go.Proofs.YtmaedahleenlgaaDoor
open Go Go.RowKit Go.WideMaps

theorem lookK_form {T : List Nd} {key h : Int} {x : Tok} (e : lookK T key h = some x) : (0 ≤ x.time ∧ x.time ≤ 4611686018427387903) ∧ lookX T key h = x ∧ lookE T key h = 0 := by
  refine ⟨?_, ?_, ?_⟩
  · unfold lookK nodeK at e
    split at e
    · exact (readK_range e).2.1
    · cases e
  · unfold lookX; rw [e]; rfl
  · unfold lookE; rw [e]; rfl
set_option maxHeartbeats 6400000 in
set_option maxRecDepth 100000 in
theorem tcheck_any {B tb : Nat} {T : List Nd} (key h addr now life : Int) (w : World) (ht : IsTab B w tb T) (hh : Fit h) (hn : Fit now) :
    Calls Tryd.prog 18 #[.pointer (some ⟨tb, 0, none⟩), .int .i64 key, .int .i64 h, .int .i64 addr, .int .i64 now, .int .i64 life] w (TlkPost (checkX (lookK T key h) addr now life) (checkE (lookK T key h) addr now life) w) := by
  have HN0 := Lib.hid hn
  obtain ⟨W0, hW0⟩ : ∃ W, W = w.alloc (.cells #[.bool false, .int .i64 0, .int .i64 0, .slice none 0 0] 32) := ⟨_, rfl⟩
  have HB0 : Hid (Below w.heap.size w W0) := by rw [hW0]; exact below_new _
  have HG0 : Hid (TbAt W0 w.heap.size false 0 0 (.slice none 0 0)) := by rw [hW0]; exact heap_alloc_new w _
  have key1 := tlook_any key h W0 (ht.below HB0.out) hh
  cases hlk : lookK T key h with
  | none =>
    have e1 : lookX T key h = tok0 := by unfold lookX; rw [hlk]; rfl
    have e2 : lookE T key h = 14 := by unfold lookE; rw [hlk]; rfl
    rw [e1, e2] at key1
    clear e1 e2 hlk ht hh hn
    go_enter Tryd.func18, Tryd.ntmps18
    go_wp2_with fail
    rw [← hW0]
    clear hW0
    refine key1.mono ?_
    clear key1
    rintro e w6 ⟨A6, c6, rfl, ho, hb⟩
    simp only [TokV, tok0, List.length_nil] at ho ⊢
    obtain ⟨w7, hw7⟩ : ∃ w7, w7 = w6.alloc (.cells #[.bool false, .int .i64 0, .int .i64 0, .slice A6 0 c6] 32) := ⟨_, rfl⟩
    have hbn : Below w6.heap.size w6 w7 := by rw [hw7]; exact below_new _
    have hb5 := below_next hb hb.size hbn
    have HG7 := Lib.hid (HG0.out.later hb5 HG0.out.lt)
    have HB7 := Lib.hid (below_next HB0.out HB0.out.size hb5)
    clear hbn hb ho hb5
    subst hw7
    go_wp2_with ((with_reducible show wpList _ _ _ (Oper.mk _ (Op.store 32 (.tmp 12) _) _ _ _ _ :: _) _ _); (refine wp_store_row rfl rfl _ _ _ rfl w.heap.size _ _ 32 rfl rfl tb_size HG7.out rfl (by simp [Value.oneCell']) ?_))
    obtain ⟨u, hu⟩ : ∃ u, u = World.setRow (w6.alloc (.cells #[.bool false, .int .i64 0, .int .i64 0, .slice A6 0 c6] 32)) w.heap.size #[.bool false, .int .i64 0, .int .i64 0, .slice none 0 0] := ⟨_, rfl⟩
    rw [← hu]
    have hux : TbAt u w.heap.size false 0 0 (.slice none 0 0) := by rw [hu]; exact setRow_heap _ w.heap.size _ _ _ _ HG7.out
    have HBu : Hid (Below w.heap.size w u) := by rw [hu]; exact below_setRow HB7.out (Nat.le_refl _) _
    have z0 := hux.x0
    have z1 := hux.x1
    have z2 := hux.x2
    have z3 := hux.x3
    clear hu hux
    refine bodyPost_ret (v := .tuple #[.agg #[.bool false, .int .i64 0, .int .i64 0, .slice none 0 0], .int .i64 14]) (by simp [results, Tryd.results18, go_sem, z0, z1, z2, z3]) rfl ?_
    exact TlkPost.no rfl HBu.out
  | some x =>
    obtain ⟨⟨t0, t1⟩, e1, e2⟩ := lookK_form hlk
    obtain ⟨X, hX⟩ : ∃ X, X = checkX (some x) addr now life := ⟨_, rfl⟩
    obtain ⟨E, hE⟩ : ∃ E, E = checkE (some x) addr now life := ⟨_, rfl⟩
    rw [← hX, ← hE]
    have HX : Hid (X = if E = 0 then x else tok0) := by show _ = _; rw [hX, hE]; rfl
    have HE : Hid (E = rightK x addr now life) := hE
    rw [e1, e2] at key1
    clear e1 e2 hlk ht hh hn hX hE
    obtain ⟨xl, xa, xt, xn⟩ := x
    simp only at t0 t1
    go_enter Tryd.func18, Tryd.ntmps18
    go_wp2_with fail
    rw [← hW0]
    clear hW0
    refine key1.mono ?_
    clear key1
    rintro e w6 ⟨A6, c6, rfl, ho, hb⟩
    simp only [TokV] at ho ⊢
    obtain ⟨w7, hw7⟩ : ∃ w7, w7 = w6.alloc (.cells #[.bool xl, .int .i64 xa, .int .i64 xt, .slice A6 xn.length c6] 32) := ⟨_, rfl⟩
    have hbn : Below w6.heap.size w6 w7 := by rw [hw7]; exact below_new _
    have hb5 := below_next hb hb.size hbn
    have HG7 := Lib.hid (HG0.out.later hb5 HG0.out.lt)
    have HB7 := Lib.hid (below_next HB0.out HB0.out.size hb5)
    have HO7 := Lib.hid (ho.below hbn)
    have l7 : w.heap.size < W0.heap.size := HG0.out.lt
    clear hbn hb ho hb5 HG0 HB0
    subst hw7
    by_cases ha : xa = addr
    rotate_left
    · have HN : Hid (X = tok0 ∧ E = 14) := by
        have h1 : E = 14 := by rw [HE.out]; exact if_pos ha
        exact ⟨by rw [HX.out, h1]; rfl, h1⟩
      have hab : (xa != addr) = true := by simp [ha]
      clear ha
      go_wp2_with ((with_reducible show wpList _ _ _ (Oper.mk _ (Op.store 32 (.tmp 12) _) _ _ _ _ :: _) _ _); (refine wp_store_row rfl rfl _ _ _ rfl w.heap.size _ _ 32 rfl rfl tb_size HG7.out rfl (by simp [Value.oneCell']) ?_))
      obtain ⟨u, hu⟩ : ∃ u, u = World.setRow (w6.alloc (.cells #[.bool xl, .int .i64 xa, .int .i64 xt, .slice A6 xn.length c6] 32)) w.heap.size #[.bool false, .int .i64 0, .int .i64 0, .slice none 0 0] := ⟨_, rfl⟩
      rw [← hu]
      have hux : TbAt u w.heap.size false 0 0 (.slice none 0 0) := by rw [hu]; exact setRow_heap _ w.heap.size _ _ _ _ HG7.out
      have HBu : Hid (Below w.heap.size w u) := by rw [hu]; exact below_setRow HB7.out (Nat.le_refl _) _
      have z0 := hux.x0
      have z1 := hux.x1
      have z2 := hux.x2
      have z3 := hux.x3
      clear hu hux
      refine bodyPost_ret (v := .tuple #[.agg #[.bool false, .int .i64 0, .int .i64 0, .slice none 0 0], .int .i64 14]) (by simp [results, Tryd.results18, go_sem, z0, z1, z2, z3]) rfl ?_
      rw [HN.out.2]; exact TlkPost.no HN.out.1 HBu.out
    have HA := Lib.hid ha
    have hab : (xa != addr) = false := by simp [ha]
    clear ha
    have hn1 := HN0.out.2
    by_cases h1 : now < xt
    · have HN : Hid (X = tok0 ∧ E = 9) := by
        have h2 : E = 9 := by rw [HE.out]; unfold rightK; rw [if_neg (by show ¬ xa ≠ addr; simp [HA.out]), if_pos (.inl h1)]
        exact ⟨by rw [HX.out, h2]; rfl, h2⟩
      go_wp2_with ((with_reducible show wpList _ _ _ (Oper.mk _ (Op.store 32 (.tmp 12) _) _ _ _ _ :: _) _ _); (refine wp_store_row rfl rfl _ _ _ rfl w.heap.size _ _ 32 rfl rfl tb_size HG7.out rfl (by simp [Value.oneCell']) ?_))
      obtain ⟨u, hu⟩ : ∃ u, u = World.setRow (w6.alloc (.cells #[.bool xl, .int .i64 xa, .int .i64 xt, .slice A6 xn.length c6] 32)) w.heap.size #[.bool false, .int .i64 0, .int .i64 0, .slice none 0 0] := ⟨_, rfl⟩
      rw [← hu]
      have hux : TbAt u w.heap.size false 0 0 (.slice none 0 0) := by rw [hu]; exact setRow_heap _ w.heap.size _ _ _ _ HG7.out
      have HBu : Hid (Below w.heap.size w u) := by rw [hu]; exact below_setRow HB7.out (Nat.le_refl _) _
      have z0 := hux.x0
      have z1 := hux.x1
      have z2 := hux.x2
      have z3 := hux.x3
      clear hu hux
      refine bodyPost_ret (v := .tuple #[.agg #[.bool false, .int .i64 0, .int .i64 0, .slice none 0 0], .int .i64 9]) (by simp [results, Tryd.results18, go_sem, z0, z1, z2, z3]) rfl ?_
      rw [HN.out.2]; exact TlkPost.no HN.out.1 HBu.out
    have hsub : IntKind.i64.wrap (now - xt) = now - xt := by rw [IntKind.wrap_i64]; omega
    by_cases h2 : life < now - xt
    · have HN : Hid (X = tok0 ∧ E = 9) := by
        have h2 : E = 9 := by rw [HE.out]; unfold rightK; rw [if_neg (by show ¬ xa ≠ addr; simp [HA.out]), if_pos (.inr h2)]
        exact ⟨by rw [HX.out, h2]; rfl, h2⟩
      go_wp2_with ((with_reducible show wpList _ _ _ (Oper.mk _ (Op.store 32 (.tmp 12) _) _ _ _ _ :: _) _ _); (refine wp_store_row rfl rfl _ _ _ rfl w.heap.size _ _ 32 rfl rfl tb_size HG7.out rfl (by simp [Value.oneCell']) ?_))
      obtain ⟨u, hu⟩ : ∃ u, u = World.setRow (w6.alloc (.cells #[.bool xl, .int .i64 xa, .int .i64 xt, .slice A6 xn.length c6] 32)) w.heap.size #[.bool false, .int .i64 0, .int .i64 0, .slice none 0 0] := ⟨_, rfl⟩
      rw [← hu]
      have hux : TbAt u w.heap.size false 0 0 (.slice none 0 0) := by rw [hu]; exact setRow_heap _ w.heap.size _ _ _ _ HG7.out
      have HBu : Hid (Below w.heap.size w u) := by rw [hu]; exact below_setRow HB7.out (Nat.le_refl _) _
      have z0 := hux.x0
      have z1 := hux.x1
      have z2 := hux.x2
      have z3 := hux.x3
      clear hu hux
      refine bodyPost_ret (v := .tuple #[.agg #[.bool false, .int .i64 0, .int .i64 0, .slice none 0 0], .int .i64 9]) (by simp [results, Tryd.results18, go_sem, z0, z1, z2, z3]) rfl ?_
      rw [HN.out.2]; exact TlkPost.no HN.out.1 HBu.out
    have HN : Hid (X = ⟨xl, xa, xt, xn⟩ ∧ E = 0) := by
      have h3 : E = 0 := by rw [HE.out]; unfold rightK; rw [if_neg (by show ¬ xa ≠ addr; simp [HA.out]), if_neg (by show ¬ (now < xt ∨ life < now - xt); omega)]
      exact ⟨by rw [HX.out, h3]; rfl, h3⟩
    go_wp2_with ((with_reducible show wpList _ _ _ (Oper.mk _ (Op.store 32 (.tmp 12) _) _ _ _ _ :: _) _ _); (refine wp_store_row rfl rfl _ _ _ rfl w.heap.size _ _ 32 rfl rfl tb_size HG7.out rfl (by simp [Value.oneCell']) ?_))
    obtain ⟨u, hu⟩ : ∃ u, u = World.setRow (w6.alloc (.cells #[.bool xl, .int .i64 xa, .int .i64 xt, .slice A6 xn.length c6] 32)) w.heap.size #[.bool xl, .int .i64 xa, .int .i64 xt, .slice A6 xn.length c6] := ⟨_, rfl⟩
    rw [← hu]
    have hux : TbAt u w.heap.size xl xa xt (.slice A6 xn.length c6) := by rw [hu]; exact setRow_heap _ w.heap.size _ _ _ _ HG7.out
    have HBu : Hid (Below w.heap.size w u) := by rw [hu]; exact below_setRow HB7.out (Nat.le_refl _) _
    have HOu : Hid (OwnI u w.heap.size .u8 (.slice A6 xn.length c6) xn) := by rw [hu]; exact (HO7.out.setRow l7 _).mono (Nat.le_of_lt l7)
    have z0 := hux.x0
    have z1 := hux.x1
    have z2 := hux.x2
    have z3 := hux.x3
    clear hu hux
    refine bodyPost_ret (v := .tuple #[.agg #[.bool xl, .int .i64 xa, .int .i64 xt, .slice A6 xn.length c6], .int .i64 0]) (by simp [results, Tryd.results18, go_sem, z0, z1, z2, z3]) rfl ?_
    rw [HN.out.2]; exact TlkPost.yes HN.out.1 HOu.out HBu.out

set_option maxHeartbeats 3200000 in
set_option maxRecDepth 100000 in
theorem mint_any {B B' tb : Nat} {T : List Nd} (key : Int) (l : Bool) (a t : Int) (nm : List Int) (A : Option Addr) (n c : Nat) (w : World) (ht : IsTab B w tb T) (hk : Fit key) (h : Rds B' w .u8 A n c nm) (hn : n ≤ 1000) (hz : Tz w) :
    Calls Tryd.prog 11 #[.pointer (some ⟨tb, 0, none⟩), .int .i64 key, .agg #[.bool l, .int .i64 a, .int .i64 t, .slice A n c]] w (TabPost B tb w (mintT T key ⟨l, a, t, nm⟩)) := by
  obtain ⟨W, hW⟩ : ∃ W, W = w.alloc (.cells #[.bool l, .int .i64 a, .int .i64 t, .slice A n c] 32) := ⟨_, rfl⟩
  have HBW : Hid (Below w.heap.size w W) := by rw [hW]; exact below_new _
  have HT := Lib.hid (ht.below HBW.out)
  have HT0 := Lib.hid ht
  have HFk := Lib.hid hk
  obtain ⟨zs, hzs⟩ : ∃ zs, zs = tokB ⟨l, a, t, nm⟩ := ⟨_, rfl⟩
  have key1 := ttext_any l a t nm A n c W (h.below HBW.out) hn (hz.later HBW.out)
  rw [← hzs] at key1
  have HZS := Lib.hid hzs
  clear ht hk h hz
  go_enter Tryd.func11, Tryd.ntmps11
  go_wp2_with fail
  rw [← hW]
  clear hW
  refine key1.mono ?_
  clear key1
  rintro e w1 ⟨v1, rfl, ho, hb⟩
  obtain ⟨A1, c1, rfl⟩ := ho.slice
  have HB1 := Lib.hid (below_next HBW.out HBW.out.size hb)
  have HT1 := Lib.hid (HT.out.below hb)
  have HO1 := Lib.hid (ho.rds (B' := 0))
  clear ho hb HT HBW
  by_cases hbad : badTok ⟨l, a, t, nm⟩
  · have HN : Hid (mintT T key ⟨l, a, t, nm⟩ = (T, 0)) := mintT_no hbad
    have hlz : zs.length = 0 := by rw [hzs, tokB_no hbad]; rfl
    have hlb : ((zs.length : Int) == 0) = true := by rw [hlz]; rfl
    clear hbad hzs hlz
    go_wp2_with fail
    go_ret
    rw [HN.out]
    exact tabPost_same HT0.out HB1.out
  · have hlen := tokB_len hbad
    rw [← hzs] at hlen
    have hlb : ((zs.length : Int) == 0) = false := by rw [beq_eq_false_iff_ne]; omega
    have HN : Hid (mintT T key ⟨l, a, t, nm⟩ = tokT T key (strOfNums zs)) := by show _ = _; rw [mintT_yes hbad, hzs]
    have hconv := Lib.hid (run_const_bytes w1 #[.int .u8 116, .int .u8 111, .int .u8 107, .int .u8 101, .int .u8 110] 5 5)
    obtain ⟨V, hV⟩ : ∃ V, V = w1.alloc (.cells #[.int .u8 116, .int .u8 111, .int .u8 107, .int .u8 101, .int .u8 110] 5 (5, 6)) := ⟨_, rfl⟩
    have hr : Rds B V .u8 (some ⟨w1.heap.size, 0, none⟩) 5 5 tokenL := by
      rw [hV]
      exact rds_marked (xs := tokenL) (t := 5) (5, 6) rfl (by decide) _ rfl 5 rfl (by decide)
    have hBV : Below w1.heap.size w1 V := by rw [hV]; exact below_new _
    have HBV := Lib.hid (below_next HB1.out HB1.out.size hBV)
    have HTl := Lib.hid HT1.out.1.len
    have key1 := text_any A1 zs.length c1 zs V (HT1.out.below hBV) (HO1.out.below hBV)
    have HK := Lib.hid hr
    clear hbad hzs hlen hr hBV HB1 HT1 HO1
    go_wp2_with ((with_reducible show wpList _ _ _ (Oper.mk _ (Op.convert 22 22 _) _ _ _ _ :: _) _ _); refine wp_convert rfl _ _ _ rfl rfl hconv.out ?_)
    rw [← hV]
    clear hV hconv
    refine key1.mono ?_
    clear key1
    rintro e w4 p
    obtain ⟨⟨T4, h4⟩, e4⟩ : ∃ r, textT T (strOfNums zs) = r := ⟨_, rfl⟩
    have r4 := textT_range (T := T) (b := strOfNums zs) HTl.out
    rw [e4] at r4
    obtain ⟨rfl, ht, hf⟩ := p.intro e4
    have HE : Hid (mintT T key ⟨l, a, t, nm⟩ = sealT T4 key tokenS h4) := by show _ = _; rw [HN.out]; unfold tokT; rw [e4]
    have HF4 : Hid (Frm tabO B w w4) := (Frm.of_below HBV.out).trans hf
    have key1 := seal_any key (some ⟨w1.heap.size, 0, none⟩) 5 5 tokenL h4 w4 ht HFk.out (fit_of r4) (HK.out.frm hf.tab_sp)
    rw [token_str] at key1
    clear p e4 r4 ht hf HBV HK
    go_wp2_with fail
    refine key1.mono ?_
    clear key1
    rintro e w7 p
    have P7 := Lib.hid (tabPost_next HF4.out p)
    obtain ⟨rfl, -, -⟩ := p
    go_wp2_with fail
    go_ret
    rw [HE.out]
    exact P7.out
end Go.Proofs.YtmaedahleenlgaaDoor
