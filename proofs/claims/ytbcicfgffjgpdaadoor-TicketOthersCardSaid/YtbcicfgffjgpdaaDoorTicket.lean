/- Three numbers of layer 17: the reference's Read and Text, the program's numbers. No condition. -/
import Derived.Test.YtbcicfgffjgpdaaDoorPureTicket
import Derived.Test.YtbcicfgffjgpdaaDoorVarRead
import Derived.Test.YtbcicfgffjgpdaaDoorVarBytes
import Derived.Test.YtbcicfgffjgpdaaDoorCut
import Derived.Test.YtbcicfgffjgpdaaDoorLater
import Derived.Deep.RegionHeld3
set_option linter.unusedVariables false
set_option linter.unusedSimpArgs false
namespace Go.Proofs.YtbcicfgffjgpdaaDoor
open Go Go.RowKit

def Tk17Post (xs : List Int) (w : World) (e : Ending) (w' : World) : Prop :=
  e = .returned (.tuple #[.agg #[.int .i64 (tkV xs).1, .int .i64 (tkV xs).2.1, .int .i64 (tkV xs).2.2], .bool (readT xs).isSome]) ∧ Below w.heap.size w w'
theorem Tk17Post.no {xs : List Int} {w w' : World} (h : readT xs = none) (hb : Below w.heap.size w w') : Tk17Post xs w (.returned (.tuple #[.agg #[.int .i64 0, .int .i64 0, .int .i64 0], .bool false])) w' := by
  refine ⟨?_, hb⟩
  unfold tkV
  rw [h]; rfl
theorem Tk17Post.yes {xs : List Int} {w w' : World} {a b c : Int} (h : readT xs = some (a, b, c)) (hb : Below w.heap.size w w') : Tk17Post xs w (.returned (.tuple #[.agg #[.int .i64 a, .int .i64 b, .int .i64 c], .bool true])) w' := by
  refine ⟨?_, hb⟩
  unfold tkV
  rw [h]; rfl
set_option maxHeartbeats 3200000 in
set_option maxRecDepth 100000 in
theorem r17read_any {B : Nat} (A : Option Addr) (n c : Nat) (xs : List Int) (w : World) (h : Rds B w .u8 A n c xs) (hb : Byt xs) (hn : n ≤ 1000000) :
    Calls Tryd.prog 19 #[.slice A n c] w (Tk17Post xs w) := by
  have HR := Lib.hid (h.below (below_new (.cells #[.int .i64 0, .int .i64 0, .int .i64 0] 23)))
  have HL := Lib.hid h.len
  have HY := Lib.hid hb
  have key := rread_any A n c xs _ HR.out hb
  clear h hb
  go_enter Tryd.func19, Tryd.ntmps19
  go_wp2_with fail
  refine key.mono ?_
  clear key
  rintro e w1 ⟨rfl, rfl⟩
  obtain ⟨a, s1, e1, hr1⟩ : ∃ a s e, readV xs = (a, s, e) := ⟨_, _, _, rfl⟩
  have R1 : Hid (rd1 xs = (a, s1, e1)) := hr1
  have hs1 := readV_size (xs := xs)
  rw [hr1] at hs1 ⊢
  simp only at hs1 ⊢
  have hs1n : s1 ≤ n := by have := HL.out; omega
  clear hr1 hs1
  by_cases he1 : e1 = 0
  rotate_left
  · have HN : Hid (readT xs = none) := readT_no fun k => by rw [R1.out] at k; exact he1 k.1
    have hb1 : (e1 != 0) = true := by simp [he1]
    clear he1
    go_wp2_with fail
    go_returns
    exact Tk17Post.no HN.out (below_new _)
  subst he1
  go_wp2_with ((with_reducible show wpList _ _ _ (Oper.mk _ (Op.slice _ _ _ _ _) _ _ _ _ :: _) _ _); refine wp_cut rfl _ _ rfl rfl rfl s1 rfl hs1n HR.out ?_)
  intro hr2
  have HR2 := Lib.hid hr2
  have key := rread_any _ _ _ _ _ HR2.out (fun x hx => HY.out x (List.mem_of_mem_drop hx))
  clear hr2
  go_wp2_with fail
  refine key.mono ?_
  clear key
  rintro e w2 ⟨rfl, rfl⟩
  obtain ⟨b, s2, e2, hr2⟩ : ∃ a s e, readV (xs.drop s1) = (a, s, e) := ⟨_, _, _, rfl⟩
  have R2 : Hid (rd2 xs = (b, s2, e2)) := by show rd2 xs = _; unfold rd2; rw [R1.out]; exact hr2
  have hs2 := readV_size (xs := xs.drop s1)
  rw [hr2] at hs2 ⊢
  simp only [List.length_drop] at hs2 ⊢
  have hs2n : s1 + s2 ≤ n := by have := HL.out; omega
  clear hr2 hs2
  by_cases he2 : e2 = 0
  rotate_left
  · have HN : Hid (readT xs = none) := readT_no fun k => by rw [R2.out] at k; exact he2 k.2.1
    have hb1 : (e2 != 0) = true := by simp [he2]
    clear he2
    go_wp2_with fail
    go_returns
    exact Tk17Post.no HN.out (below_new _)
  subst he2
  have hsw : wrap64 ((s1 : Int) + s2) = ((s1 + s2 : Nat) : Int) := by unfold wrap64; omega
  go_wp2_with ((with_reducible show wpList _ _ _ (Oper.mk _ (Op.slice _ _ _ _ _) _ _ _ _ :: _) _ _); refine wp_cut rfl _ _ rfl rfl rfl (s1 + s2) (by push_cast; omega) hs2n HR.out ?_)
  intro hr3
  have HR3 := Lib.hid hr3
  have key := rread_any _ _ _ _ _ HR3.out (fun x hx => HY.out x (List.mem_of_mem_drop hx))
  clear hr3
  go_wp2_with fail
  refine key.mono ?_
  clear key
  rintro e w3 ⟨rfl, rfl⟩
  obtain ⟨d, s3, e3, hr3⟩ : ∃ a s e, readV (xs.drop (s1 + s2)) = (a, s, e) := ⟨_, _, _, rfl⟩
  have R3 : Hid (rd3 xs = (d, s3, e3)) := by show rd3 xs = _; unfold rd3; rw [R1.out, R2.out]; exact hr3
  have hs3 := readV_size (xs := xs.drop (s1 + s2))
  rw [hr3] at hs3 ⊢
  simp only [List.length_drop] at hs3 ⊢
  have hs3n : s1 + s2 + s3 ≤ n := by have := HL.out; omega
  clear hr3 hs3
  by_cases he3 : e3 = 0
  rotate_left
  · have HN : Hid (readT xs = none) := readT_no fun k => by rw [R3.out] at k; exact he3 k.2.2.1
    have hb1 : (e3 != 0) = true := by simp [he3]
    clear he3
    go_wp2_with fail
    go_returns
    exact Tk17Post.no HN.out (below_new _)
  subst he3
  by_cases hs : s1 + s2 + s3 = n
  rotate_left
  · have HN : Hid (readT xs = none) := readT_no fun k => by rw [R1.out, R2.out, R3.out] at k; have := HL.out; exact hs (k.2.2.2.trans this)
    have hb1 : (((s1 : Int) + s2 + s3) != (n : Int)) = true := by rw [bne_iff_ne]; omega
    clear hs
    go_wp2_with fail
    go_returns
    exact Tk17Post.no HN.out (below_new _)
  · have HN : Hid (readT xs = some (a, b, d)) := by
      show _ = _
      rw [readT_yes (by rw [R1.out, R2.out, R3.out]; exact ⟨rfl, rfl, rfl, hs.trans HL.out.symm⟩), R1.out, R2.out, R3.out]
    have hb1 : (((s1 : Int) + s2 + s3) != (n : Int)) = false := by rw [bne_eq_false_iff_eq]; omega
    clear hs
    go_wp2_with fail
    go_returns
    exact Tk17Post.yes HN.out (below_new _)

set_option maxRecDepth 100000 in
/-- append(s, x...) of bytes inside a region that draws its order. -/
theorem step_app_u8 {ops : Array Oper} {o : Oper} {a : Act} {w : World} {K : Act → World → Prop} {Q : Exit → Act → World → Prop} {E : Prop} (hgd : o.guard = none) (s x : Operand)
    (ho : o.op = .call { callee := .builtin .append, args := #[s, x], argTypes := #[31, 31] })
    {B : Nat} {v : Value} {xs ys : List Int} {A : Option Addr} {m c : Nat} (hv : a.eval s = v) (hx : a.eval x = .slice A m c) (hown : OwnI w B .u8 v xs) (hr : RdI w .u8 A ys) (hm : ys.length = m) (hB : B ≤ w.heap.size) (hbytes : xs.length + m ≤ 140737488355328)
    (hK : ∀ v' w', OwnI w' B .u8 v' (xs ++ ys) → w.grownBy w' v.ownBlock → Below B w w' → K (a.put o.dst v') w') : if Region.wanted o (yielded ops a.tmps) = true then Oper.wp Tryd.prog o a w K Q else E := by
  have hw : Region.wanted o (yielded ops a.tmps) = true := by simp [Region.wanted, hgd]
  rw [if_pos hw]
  obtain ⟨i, hi, hz0, hz1, hz2⟩ := info_parts info_u8
  obtain ⟨v', w', hrun, h1, h2, h3⟩ := run_app (P := Tryd.prog) (w := w) 31 o.type 5 i (.int .u8 0) .u8 1 Tryd.underlying31 hi hz0 hz1 hz2 rfl sp_u8 hown hr hm hB (by omega) (by omega)
  exact Lib.wp_append_run w s x _ _ ho v _ hv hx v' w' hrun (hK v' w' h1 h2 h3)

set_option maxHeartbeats 3200000 in
set_option maxRecDepth 100000 in
theorem r17text_any (v t l : Int) (w : World) :
    Calls Tryd.prog 11 #[.agg #[.int .i64 v, .int .i64 t, .int .i64 l]] w (BytesPost (textV v t l) w) := by
  obtain ⟨W, hW⟩ : ∃ W, W = w.alloc (.cells #[.int .i64 v, .int .i64 t, .int .i64 l] 23) := ⟨_, rfl⟩
  have HBW : Hid (Below w.heap.size w W) := by rw [hW]; exact below_new _
  have HSW : Hid (W.heap.size = w.heap.size + 1) := by rw [hW]; show _ = _; simp
  have x0 : W.cell? ⟨w.heap.size, 0, none⟩ = some (.int .i64 v) := by rw [hW]; simp [go_sem]
  have x1 : W.cell? ⟨w.heap.size, 1, none⟩ = some (.int .i64 t) := by rw [hW]; simp [go_sem]
  have x2 : W.cell? ⟨w.heap.size, 2, none⟩ = some (.int .i64 l) := by rw [hW]; simp [go_sem]
  have hlt : w.heap.size < W.heap.size := by have := HSW.out; omega
  have key := rsize_any v W
  go_enter Tryd.func11, Tryd.ntmps11
  go_wp2_with fail
  rw [← hW]
  clear hW
  refine key.mono ?_
  clear key
  rintro e w1 ⟨rfl, rfl⟩
  by_cases hv : sizeV v = 0
  · have HN := Lib.hid (textV_no (v := v) (t := t) (l := l) (.inl hv))
    have hvb : (((sizeV v : Nat) : Int) == 0) = true := by rw [hv]; rfl
    clear hv
    go_wp2_with fail
    go_ret
    rw [HN.out]
    exact BytesPost.nil HBW.out
  have hvb : (((sizeV v : Nat) : Int) == 0) = false := by rw [beq_eq_false_iff_ne]; omega
  have HV := Lib.hid hv
  clear hv
  have key := rsize_any t W
  go_wp2_with fail
  refine key.mono ?_
  clear key
  rintro e w1 ⟨rfl, rfl⟩
  by_cases ht : sizeV t = 0
  · have HN := Lib.hid (textV_no (v := v) (t := t) (l := l) (.inr (.inl ht)))
    have htb : (((sizeV t : Nat) : Int) == 0) = true := by rw [ht]; rfl
    clear ht
    go_wp2_with fail
    go_ret
    rw [HN.out]
    exact BytesPost.nil HBW.out
  have htb : (((sizeV t : Nat) : Int) == 0) = false := by rw [beq_eq_false_iff_ne]; omega
  have HT := Lib.hid ht
  clear ht
  have key := rsize_any l W
  go_wp2_with fail
  refine key.mono ?_
  clear key
  rintro e w1 ⟨rfl, rfl⟩
  by_cases hl : sizeV l = 0
  · have HN := Lib.hid (textV_no (v := v) (t := t) (l := l) (.inr (.inr hl)))
    have hlb : (((sizeV l : Nat) : Int) == 0) = true := by rw [hl]; rfl
    clear hl
    go_wp2_with fail
    go_ret
    rw [HN.out]
    exact BytesPost.nil HBW.out
  have hlb : (((sizeV l : Nat) : Int) == 0) = false := by rw [beq_eq_false_iff_ne]; omega
  have HN : Hid (textV v t l = varB v ++ varB t ++ varB l) := textV_yes (by rintro (h | h | h); exact HV.out h; exact HT.out h; exact hl h)
  clear hl
  have hv8 := sizeV_le v
  have ht8 := sizeV_le t
  have hl8 := sizeV_le l
  have lv := Lib.hid (varB_len v)
  have lt := Lib.hid (varB_len t)
  have ll := Lib.hid (varB_len l)
  go_wp2_with fail
  have HD : Hid (Below W.heap.size W W.drew) := (Below.refl _ _).drew
  go_region_held3 (fun w' => w'.cell? ⟨w.heap.size, 0, none⟩ = some (.int .i64 v) ∧ w'.cell? ⟨w.heap.size, 1, none⟩ = some (.int .i64 t) ∧ w'.cell? ⟨w.heap.size, 2, none⟩ = some (.int .i64 l))
    (first
      | go_keep
      | exact ⟨later_cell HB1.out x0 hlt, later_cell HB1.out x1 hlt, later_cell HB1.out x2 hlt⟩
      | exact ⟨later_cell HB2.out x0 hlt, later_cell HB2.out x1 hlt, later_cell HB2.out x2 hlt⟩
      | exact ⟨later_cell HB3.out x0 hlt, later_cell HB3.out x1 hlt, later_cell HB3.out x2 hlt⟩) ((first
    | (go_at_call 32
       have h0 := HD
       have key := rbytes_any v W.drew
       refine key.mono ?_
       clear key
       rintro e w1 ⟨v1, rfl, ho, hb⟩
       have HB1 := Lib.hid (HD.out.trans hb)
       have HO1 := Lib.hid ho
       clear HD ho hb h0)
    | (go_at_call 32
       have key := rbytes_any t w1
       refine key.mono ?_
       clear key
       rintro e w2 ⟨v2, rfl, ho, hb⟩
       have HB2 := Lib.hid (below_next HB1.out HB1.out.size hb)
       have HO12 := Lib.hid (HO1.out.below hb)
       obtain ⟨A2, c2, rfl⟩ := ho.slice
       have HO2 := Lib.hid (ho.rds (B' := 0)).cell
       have HS1 := Lib.hid HB1.out.size
       clear HB1 HO1 ho hb)
    | (refine step_app_u8 rfl _ _ rfl rfl rfl HO12.out HO2.out rfl HB2.out.size (by have := lv.out; have := lt.out; omega) ?_
       intro v3 w3 ho hg hb
       have HB3 := Lib.hid (HB2.out.trans hb)
       have HO3 := Lib.hid ho
       clear HB2 HO12 HO2 ho hg hb)))
  all_goals
    rename_i hHeld
    have y2 := hHeld.2.2
    have HO : Hid (OwnI w3 w.heap.size .u8 v3 (varB v ++ varB t)) := HO3.out.mono (by have := HBW.out.size; simpa using this)
    have HB : Hid (Below w.heap.size w w3) := HBW.out.trans (HB3.out.mono HBW.out.size)
    have key := rbytes_any l w3
    clear hHeld x0 x1 x2 HO3 HB3 HBW HSW hlt
    go_wp2_with fail
    refine key.mono ?_
    clear key
    rintro e w4 ⟨v4, rfl, ho, hb⟩
    obtain ⟨A4, c4, rfl⟩ := ho.slice
    have HO4 := Lib.hid (HO.out.below hb)
    have HR4 := Lib.hid (ho.rds (B' := 0)).cell
    have HB4 := Lib.hid (below_next HB.out HB.out.size hb)
    clear ho hb y2
    go_wp2_with (at_builtin; refine wp_app_u8 rfl _ _ rfl rfl rfl HO4.out HR4.out rfl HB4.out.size (by have := lv.out; have := lt.out; have := ll.out; simp; omega) ?_)
    intro v5 w5 ho hg hb
    have HO5 := Lib.hid ho
    have HB5 := Lib.hid (HB4.out.trans hb)
    clear ho hg hb
    go_wp2_with fail
    go_ret
    rw [HN.out, List.append_assoc]
    exact ⟨_, rfl, HO5.out, HB5.out⟩
end Go.Proofs.YtbcicfgffjgpdaaDoor
