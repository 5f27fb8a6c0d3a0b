/- ticket.Issue on a table. No condition but the table of bit places. -/
import Derived.Test.YtbcicfgffjgpdaaDoorTicket2
import Derived.Test.YtbcicfgffjgpdaaDoorOpens
import Derived.Test.YtbcicfgffjgpdaaDoorZero
import Derived.Test.YtbcicfgffjgpdaaDoorPureSched
import Derived.Test.YtbcicfgffjgpdaaDoorFit
set_option linter.unusedVariables false
set_option linter.unusedSimpArgs false
namespace Go.Proofs.YtbcicfgffjgpdaaDoor
open Go Go.RowKit Go.WideMaps

def ticketL : List Int := [116, 105, 99, 107, 101, 116]
def ticketS : ByteArray := ⟨#[116, 105, 99, 107, 101, 116]⟩
theorem ticket_str : strOfNums ticketL = ticketS := by decide
def issueT (T : List Nd) (key v t l s : Int) : List Nd × Int :=
  if sizeV v = 0 ∨ sizeV t = 0 ∨ sizeV l = 0 then (T, 0)
  else sealT (makeT (textT T (strOfNums (textV v t l))).1 3 [(textT T (strOfNums (textV v t l))).2, s]).1 key ticketS (makeT (textT T (strOfNums (textV v t l))).1 3 [(textT T (strOfNums (textV v t l))).2, s]).2

/-- A local ticket. -/
def TkAt (w : World) (g : Nat) (v t l s : Int) : Prop := w.heap[g]? = some (.cells #[.int .i64 v, .int .i64 t, .int .i64 l, .int .i64 s] 29 (0, 0))
theorem TkAt.later {w w' : World} {B g : Nat} {v t l s : Int} (h : TkAt w g v t l s) (hb : Below B w w') (hB : g < B) : TkAt w' g v t l s := (hb.block _ hB).trans h
theorem TkAt.frm {w w' : World} {B g : Nat} {v t l s : Int} (h : TkAt w g v t l s) (hf : Frm tabO B w w') : TkAt w' g v t l s := hf.block _ _ h (.inr rfl)
theorem TkAt.lt {w : World} {g : Nat} {v t l s : Int} (h : TkAt w g v t l s) : g < w.heap.size := lt_of_get h
theorem TkAt.x0 {w : World} {g : Nat} {v t l s : Int} (h : TkAt w g v t l s) : w.cell? ⟨g, 0, none⟩ = some (.int .i64 v) := by rw [cell_of_row w g 0 _ _ _ h]; rfl
theorem TkAt.x1 {w : World} {g : Nat} {v t l s : Int} (h : TkAt w g v t l s) : w.cell? ⟨g, 1, none⟩ = some (.int .i64 t) := by rw [cell_of_row w g 1 _ _ _ h]; rfl
theorem TkAt.x2 {w : World} {g : Nat} {v t l s : Int} (h : TkAt w g v t l s) : w.cell? ⟨g, 2, none⟩ = some (.int .i64 l) := by rw [cell_of_row w g 2 _ _ _ h]; rfl
theorem TkAt.x3 {w : World} {g : Nat} {v t l s : Int} (h : TkAt w g v t l s) : w.cell? ⟨g, 3, none⟩ = some (.int .i64 s) := by rw [cell_of_row w g 3 _ _ _ h]; rfl

set_option maxHeartbeats 6400000 in
set_option maxRecDepth 100000 in
theorem issue_any {B tb : Nat} {T : List Nd} (key v t l s : Int) (w : World) (ht : IsTab B w tb T) (hk : Fit key) (hs : Fit s) (hz : Tz w) :
    Calls Tryd.prog 10 #[.pointer (some ⟨tb, 0, none⟩), .int .i64 key, .agg #[.int .i64 v, .int .i64 t, .int .i64 l, .int .i64 s]] w (TabPost B tb w (issueT T key v t l s)) := by
  obtain ⟨W, hW⟩ : ∃ W, W = w.alloc (.cells #[.int .i64 v, .int .i64 t, .int .i64 l, .int .i64 s] 29) := ⟨_, rfl⟩
  have HBW : Hid (Below w.heap.size w W) := by rw [hW]; exact below_new _
  have HX : Hid (TkAt W w.heap.size v t l s) := by rw [hW]; exact heap_alloc_new w _
  have HT := Lib.hid ht
  have HTW := Lib.hid (ht.below HBW.out)
  have HZ := Lib.hid (hz.later HBW.out)
  have HFk := Lib.hid hk
  have HFs := Lib.hid hs
  have j0 : ∀ w, (Instr.index 69 (.agg #[.int .i64 v, .int .i64 t, .int .i64 l]) (.int .i64 0)).run Tryd.prog w = .ok (.int .i64 v) w := fun _ => by kernel_rfl
  have j1 : ∀ w, (Instr.index 69 (.agg #[.int .i64 v, .int .i64 t, .int .i64 l]) (.int .i64 1)).run Tryd.prog w = .ok (.int .i64 t) w := fun _ => by kernel_rfl
  have j2 : ∀ w, (Instr.index 69 (.agg #[.int .i64 v, .int .i64 t, .int .i64 l]) (.int .i64 2)).run Tryd.prog w = .ok (.int .i64 l) w := fun _ => by kernel_rfl
  have x0 := HX.out.x0
  have x1 := HX.out.x1
  have x2 := HX.out.x2
  have lW := HX.out.lt
  clear ht hk hs hz
  have key1 := vsize_any v W
  go_enter Tryd.func10, Tryd.ntmps10
  go_wp2_with fail
  rw [← hW]
  clear hW x0 x1 x2
  refine wp_loop_rounds 4 ?_
  rw [rounds_succ]
  go_wp2_with fail
  refine key1.mono ?_
  clear key1
  rintro e w1 ⟨rfl, rfl⟩
  by_cases hv : sizeV v = 0
  · have HN : Hid (issueT T key v t l s = (T, 0)) := if_pos (.inl hv)
    have hvb : (((sizeV v : Nat) : Int) == 0) = true := by rw [hv]; rfl
    clear hv
    go_wp2_with fail
    go_ret
    rw [HN.out]
    exact tabPost_same HT.out HBW.out
  have hvb : (((sizeV v : Nat) : Int) == 0) = false := by rw [beq_eq_false_iff_ne]; omega
  have HV := Lib.hid hv
  have l1 := Lib.hid (varB_len v)
  have l2 := Lib.hid (varB_len t)
  have l3 := Lib.hid (varB_len l)
  have m1 := Lib.hid (sizeV_le v)
  have m2 := Lib.hid (sizeV_le t)
  have m3 := Lib.hid (sizeV_le l)
  clear hv
  have key1 := vappend_any none 0 0 [] v W (Rds.nil 0 _ _) (by omega) HZ.out
  go_wp2_with fail
  refine key1.mono ?_
  clear key1
  rintro e w1 ⟨v1, rfl, ho, hb⟩
  rw [List.nil_append] at ho
  obtain ⟨A1, c1, rfl⟩ := ho.slice
  have HO1 := Lib.hid (ho.rds (B' := 0))
  have HX1 := Lib.hid (HX.out.later hb lW)
  have HB1 := Lib.hid (below_next HBW.out HBW.out.size hb)
  have HT1 := Lib.hid (HTW.out.below hb)
  have HZ1 := Lib.hid (HZ.out.later hb)
  have lW1 : w.heap.size < w1.heap.size := HX1.out.lt
  clear ho hb HX HTW HZ lW
  have key1 := vsize_any t w1
  go_wp2_with fail
  rw [rounds_succ]
  go_wp2_with fail
  refine key1.mono ?_
  clear key1
  rintro e w2 ⟨rfl, rfl⟩
  by_cases hv : sizeV t = 0
  · have HN : Hid (issueT T key v t l s = (T, 0)) := if_pos (.inr (.inl hv))
    have hvb' : (((sizeV t : Nat) : Int) == 0) = true := by rw [hv]; rfl
    clear hv
    go_wp2_with fail
    go_ret
    rw [HN.out]
    exact tabPost_same HT.out HB1.out
  have htb : (((sizeV t : Nat) : Int) == 0) = false := by rw [beq_eq_false_iff_ne]; omega
  have HV2 := Lib.hid hv
  clear hv
  have key1 := vappend_any A1 _ c1 (varB v) t w1 HO1.out (by have := l1.out; have := m1.out; omega) HZ1.out
  go_wp2_with fail
  refine key1.mono ?_
  clear key1
  rintro e w2 ⟨v2, rfl, ho, hb⟩
  obtain ⟨ys, hys⟩ : ∃ ys, ys = varB v ++ varB t := ⟨_, rfl⟩
  rw [← hys] at ho
  have HYS := Lib.hid hys
  have LYS : Hid (ys.length = sizeV v + sizeV t) := by show _ = _; rw [hys, List.length_append, l1.out, l2.out]
  clear hys
  obtain ⟨A2, c2, rfl⟩ := ho.slice
  have HO2 := Lib.hid (ho.rds (B' := 0))
  have HX2 := Lib.hid (HX1.out.later hb lW1)
  have HB2 := Lib.hid (below_next HB1.out HB1.out.size hb)
  have HT2 := Lib.hid (HT1.out.below hb)
  have HZ2 := Lib.hid (HZ1.out.later hb)
  have lW2 : w.heap.size < w2.heap.size := HX2.out.lt
  clear ho hb HX1 HT1 HZ1 lW1 HO1 HB1
  have key1 := vsize_any l w2
  go_wp2_with fail
  rw [rounds_succ]
  go_wp2_with fail
  refine key1.mono ?_
  clear key1
  rintro e w3 ⟨rfl, rfl⟩
  by_cases hv : sizeV l = 0
  · have HN : Hid (issueT T key v t l s = (T, 0)) := if_pos (.inr (.inr hv))
    have hvb' : (((sizeV l : Nat) : Int) == 0) = true := by rw [hv]; rfl
    clear hv
    go_wp2_with fail
    go_ret
    rw [HN.out]
    exact tabPost_same HT.out HB2.out
  have hlb : (((sizeV l : Nat) : Int) == 0) = false := by rw [beq_eq_false_iff_ne]; omega
  have HNo : Hid (¬ (sizeV v = 0 ∨ sizeV t = 0 ∨ sizeV l = 0)) := by rintro (h | h | h); exact HV.out h; exact HV2.out h; exact hv h
  have HTX : Hid (textV v t l = varB v ++ varB t ++ varB l) := textV_yes HNo.out
  clear hv
  have key1 := vappend_any A2 _ c2 ys l w2 HO2.out (by have := LYS.out; have := m1.out; have := m2.out; omega) HZ2.out
  obtain ⟨zs, hzs⟩ : ∃ zs, zs = textV v t l := ⟨_, rfl⟩
  have HZS := Lib.hid hzs
  rw [show ys ++ varB l = zs from by rw [hzs, HTX.out, HYS.out]] at key1
  clear hzs
  go_wp2_with fail
  refine key1.mono ?_
  clear key1
  rintro e w3 ⟨v3, rfl, ho, hb⟩
  obtain ⟨A3, c3, rfl⟩ := ho.slice
  have HO3 := Lib.hid (ho.rds (B' := B))
  have HX3 := Lib.hid (HX2.out.later hb lW2)
  have HB3 := Lib.hid (below_next HB2.out HB2.out.size hb)
  have HT3 := Lib.hid (HT2.out.below hb)
  have lW3 : w.heap.size < w3.heap.size := HX3.out.lt
  clear ho hb HX2 HT2 HZ2 lW2 HO2 HB2 HT
  have HTl := Lib.hid HT3.out.1.len
  go_wp2_with fail
  rw [rounds_succ]
  go_wp2_with fail
  have x3 := HX3.out.x3
  have HD : Hid (Below w3.heap.size w3 w3.drew) := (Below.refl _ _).drew
  have y3 := later_cell HD.out x3 lW3
  go_region_held3 (fun w' => w'.cell? ⟨w.heap.size, 3, none⟩ = some (.int .i64 s))
    (first
      | go_keep
      | exact y3
      | exact HX5.out.x3
      | exact HX6.out.x3) ((first
    | (go_at_call 15
       have h0 := HD
       have key1 := text_any A3 zs.length c3 zs w3.drew (HT3.out.below HD.out) (HO3.out.below HD.out)
       refine key1.mono ?_
       clear key1
       rintro e w5 p
       obtain ⟨⟨T5, h5⟩, e5⟩ : ∃ r, textT T (strOfNums zs) = r := ⟨_, rfl⟩
       obtain ⟨rfl, ht, hf⟩ := p.intro e5
       have r5 := textT_range (T := T) (b := strOfNums zs) HTl.out
       rw [e5] at r5
       have R5 := Lib.hid r5
       have E5 := Lib.hid e5
       have HX5 := Lib.hid ((HX3.out.later HD.out lW3).frm hf)
       have HF5 : Hid (Frm tabO B w w5) := ((Frm.of_below HB3.out).trans (.of_below HD.out)).trans hf
       have HT5 := Lib.hid ht
       have LT5 := Lib.hid ht.1.len
       clear h0 HD p e5 r5 ht hf HX3 HB3 HT3 HO3)
    | (go_at_call 18
       have h0 := R5
       have key1 := make_fit (g := w5.heap.size) (t := 26) 3 [h5, s] w5 HT5.out rfl (by have := R5.out; simp; exact ⟨fit_of this, HFs.out⟩) (by simp) _ rfl (by decide) 2 rfl
       refine key1.mono ?_
       clear key1
       rintro e w6 p
       obtain ⟨⟨T6, h6⟩, e6⟩ : ∃ r, makeT T5 3 [h5, s] = r := ⟨_, rfl⟩
       obtain ⟨rfl, ht, hf⟩ := p.intro e6
       have r6 := makeT_range (T := T5) (k := 3) (p := [h5, s]) LT5.out
       rw [e6] at r6
       have R6 := Lib.hid r6
       have E6 := Lib.hid e6
       have HX6 := Lib.hid (HX5.out.frm hf)
       have HF6 := Lib.hid (HF5.out.trans hf)
       have HT6 := Lib.hid ht
       clear h0 p e6 r6 ht hf HX5 HF5 HT5 R5)))
  all_goals
    rename_i hHeld
    clear hHeld x3 y3
    have hconv := Lib.hid (run_const_bytes w6 #[.int .u8 116, .int .u8 105, .int .u8 99, .int .u8 107, .int .u8 101, .int .u8 116] 6 6)
    obtain ⟨V, hW⟩ : ∃ V, V = w6.alloc (.cells #[.int .u8 116, .int .u8 105, .int .u8 99, .int .u8 107, .int .u8 101, .int .u8 116] 5 (6, 7)) := ⟨_, rfl⟩
    have hr : Rds B V .u8 (some ⟨w6.heap.size, 0, none⟩) 6 6 ticketL := by
      rw [hW]
      exact rds_marked (xs := ticketL) (t := 5) (6, 7) rfl (by decide) _ rfl 6 rfl (by decide)
    have HBV : Hid (Below w6.heap.size w6 V) := by rw [hW]; exact below_new _
    have key1 := seal_any key (some ⟨w6.heap.size, 0, none⟩) 6 6 ticketL h6 V (HT6.out.below HBV.out) HFk.out (fit_of R6.out) hr
    rw [ticket_str] at key1
    have HFV := Lib.hid (HF6.out.trans (.of_below HBV.out))
    clear hr
    go_wp2_with ((with_reducible show wpList _ _ _ (Oper.mk _ (Op.convert 31 31 _) _ _ _ _ :: _) _ _); refine wp_convert rfl _ _ _ rfl rfl hconv.out ?_)
    rw [← hW]
    clear hW hconv
    refine key1.mono ?_
    clear key1
    rintro e w7 p
    have P7 := Lib.hid (tabPost_next HFV.out p)
    obtain ⟨rfl, -, -⟩ := p
    go_wp2_with fail
    go_ret
    have HE : issueT T key v t l s = sealT T6 key ticketS h6 := by
      unfold issueT
      rw [if_neg HNo.out, ← HZS.out, E5.out]
      simp only
      rw [E6.out]
    rw [HE]
    exact P7.out
end Go.Proofs.YtbcicfgffjgpdaaDoor
