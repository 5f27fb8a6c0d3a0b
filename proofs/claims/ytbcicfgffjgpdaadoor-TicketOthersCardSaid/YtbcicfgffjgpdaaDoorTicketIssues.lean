/- The walk of TicketIssues. No condition but the table of bit places. -/
import Derived.Test.YtbcicfgffjgpdaaDoorLaw17
import Derived.Test.YtbcicfgffjgpdaaDoorRow17
set_option linter.unusedVariables false
set_option linter.unusedSimpArgs false
namespace Go.Proofs.YtbcicfgffjgpdaaDoor
open Go Go.RowKit Go.WideMaps

/-- A local ticket of the reference. -/
def Tk3At (w : World) (g : Nat) (v t l : Int) : Prop := w.heap[g]? = some (.cells #[.int .i64 v, .int .i64 t, .int .i64 l] 23 (0, 0))
theorem Tk3At.later {w w' : World} {B g : Nat} {v t l : Int} (h : Tk3At w g v t l) (hb : Below B w w') (hB : g < B) : Tk3At w' g v t l := (hb.block _ hB).trans h
theorem Tk3At.frm {w w' : World} {B g : Nat} {v t l : Int} (h : Tk3At w g v t l) (hf : Frm tabO B w w') : Tk3At w' g v t l := hf.block _ _ h (.inr rfl)
theorem Tk3At.lt {w : World} {g : Nat} {v t l : Int} (h : Tk3At w g v t l) : g < w.heap.size := lt_of_get h
theorem Tk3At.x0 {w : World} {g : Nat} {v t l : Int} (h : Tk3At w g v t l) : w.cell? ⟨g, 0, none⟩ = some (.int .i64 v) := by rw [cell_of_row w g 0 _ _ _ h]; rfl
theorem Tk3At.x1 {w : World} {g : Nat} {v t l : Int} (h : Tk3At w g v t l) : w.cell? ⟨g, 1, none⟩ = some (.int .i64 t) := by rw [cell_of_row w g 1 _ _ _ h]; rfl
theorem Tk3At.x2 {w : World} {g : Nat} {v t l : Int} (h : Tk3At w g v t l) : w.cell? ⟨g, 2, none⟩ = some (.int .i64 l) := by rw [cell_of_row w g 2 _ _ _ h]; rfl
/-- A local row of two terms. -/
def RowAt (W : World) (l g c : Nat) (p q : Int) : Prop :=
  W.heap[l]? = some (.cells #[.int .i64 3, .string ByteArray.empty, .slice (some ⟨g, 0, none⟩) 2 c] 38 (0, 0)) ∧ OwnI W 0 .i64 (.slice (some ⟨g, 0, none⟩) 2 c) [p, q]
theorem RowAt.below {W W' : World} {l g c : Nat} {p q : Int} (h : RowAt W l g c p q) (hb : Below W.heap.size W W') : RowAt W' l g c p q := ⟨(hb.block _ (lt_of_get h.1)).trans h.1, h.2.below hb⟩
theorem RowAt.frm {W W' : World} {B l g c : Nat} {p q : Int} (h : RowAt W l g c p q) (hf : Frm tabO B W W') : RowAt W' l g c p q := ⟨hf.block _ _ h.1 (.inr rfl), h.2.frm hf.tab_sp⟩
theorem RowAt.kind {W : World} {l g c : Nat} {p q : Int} (h : RowAt W l g c p q) : W.cell? ⟨l, 0, none⟩ = some (.int .i64 3) := by rw [cell_of_row W l 0 _ _ _ h.1]; rfl
theorem RowAt.parts {W : World} {l g c : Nat} {p q : Int} (h : RowAt W l g c p q) : W.cell? ⟨l, 2, none⟩ = some (.slice (some ⟨g, 0, none⟩) 2 c) := by rw [cell_of_row W l 2 _ _ _ h.1]; rfl
theorem RowAt.cells {W : World} {l g c : Nat} {p q : Int} (h : RowAt W l g c p q) : W.cell? ⟨g, 0, none⟩ = some (.int .i64 p) ∧ W.cell? ⟨g, 1, none⟩ = some (.int .i64 q) := by
  obtain ⟨g', e, -, h0, h1⟩ := two_parts h.2
  cases e
  exact ⟨h0, h1⟩
theorem RowAt.four {W : World} {l g c : Nat} {p q : Int} (h : RowAt W l g c p q) : W.cell? ⟨l, 0, none⟩ = some (.int .i64 3) ∧ W.cell? ⟨l, 2, none⟩ = some (.slice (some ⟨g, 0, none⟩) 2 c) ∧ W.cell? ⟨g, 0, none⟩ = some (.int .i64 p) ∧ W.cell? ⟨g, 1, none⟩ = some (.int .i64 q) := ⟨h.kind, h.parts, h.cells.1, h.cells.2⟩
/-- A text that is there. -/
theorem text_there {T : List Nd} (hw : WfT T) {x : Int} {b : ByteArray} (h : getT T x = some (nT b)) (hb : b.size ≤ 2048) : textT T b = (T, x) := by
  have hr := getT_range h
  have hi : T[(x - 1).toNat]? = some (nT b) := by
    unfold getT at h
    rwa [if_pos hr.1] at h
  have hl : lookT T (nT b) = some (x - 1).toNat := lookT_of hw hi (by show (1 : Int) ≠ 2; decide)
  unfold textT
  rw [if_pos hb]
  unfold addT
  rw [show (⟨1, b, []⟩ : Nd) = nT b from rfl, if_neg (by show ¬ (1 : Int) = 2; decide), hl]
  show (T, ((x - 1).toNat : Int) + 1) = _
  congr 1
  omega

set_option maxHeartbeats 6400000 in
set_option maxRecDepth 100000 in
theorem issues_walk (w : World) (hz : Tz w) (v t l now : Int) (hnow : Fit now) :
    Calls Tryd.prog 3 #[.agg #[.int .i64 v, .int .i64 t, .int .i64 l], .int .i64 now] w (AwakePost w) := by
  have HZ := Lib.hid hz
  have HN := Lib.hid hnow
  obtain ⟨W, hW⟩ : ∃ W, W = w.alloc (.cells #[.int .i64 v, .int .i64 t, .int .i64 l] 23) := ⟨_, rfl⟩
  have HBW : Hid (Below w.heap.size w W) := by rw [hW]; exact below_new _
  have HX : Hid (Tk3At W w.heap.size v t l) := by rw [hW]; exact heap_alloc_new w _
  clear hz hnow
  go_enter Tryd.func3, Tryd.ntmps3
  go_wp2_with fail
  rw [← hW]
  clear hW
  refine (new_any W).mono ?_
  rintro e w1 ⟨tb, rfl, ht1, hb1⟩
  have HX1 := Lib.hid (HX.out.later hb1 HX.out.lt)
  have HB1 := Lib.hid (below_next HBW.out HBW.out.size hb1)
  have HSW := Lib.hid HBW.out.size
  have key := secret_any w1 ht1
  clear hb1 ht1 HX HBW
  go_wp2_with fail
  refine key.mono ?_
  clear key
  rintro e w2 p
  obtain ⟨rfl, ht, hf⟩ := p.intro sec1
  have HX2 := Lib.hid (HX1.out.frm hf)
  have HB2 := Lib.hid (HB1.out.trans ((hf.weak HSW.out).below HB1.out.size))
  have key := secret_any w2 ht
  clear p ht hf HB1 HX1
  go_wp2_with fail
  refine key.mono ?_
  clear key
  rintro e w3 p
  obtain ⟨rfl, ht, hf⟩ := p.intro sec2
  have HX3 := Lib.hid (HX2.out.frm hf)
  have HB3 := Lib.hid (HB2.out.trans ((hf.weak HSW.out).below HB2.out.size))
  have HW3 := Lib.hid ht.1
  obtain ⟨V, hV⟩ : ∃ V, V = w3.alloc (.cells #[.int .i64 v, .int .i64 t, .int .i64 l, .int .i64 2] 29) := ⟨_, rfl⟩
  have hBV : Below w3.heap.size w3 V := by rw [hV]; exact below_new _
  have HO : Hid (TkAt V w3.heap.size v t l 2) := by rw [hV]; exact heap_alloc_new w3 _
  have HXV := Lib.hid (HX3.out.later hBV HX3.out.lt)
  have HBV := Lib.hid (below_next HB3.out HB3.out.size hBV)
  have HTV := Lib.hid (ht.below hBV)
  have x0 := HX3.out.x0
  have x1 := HX3.out.x1
  have x2 := HX3.out.x2
  have key := issue_any 1 v t l 2 V HTV.out ⟨by decide, by decide⟩ ⟨by decide, by decide⟩ (HZ.out.later HBV.out)
  clear p ht hf HB2 HX2 hBV HB3
  go_wp2_with fail
  rw [← hV]
  clear hV x0 x1 x2 HX3
  obtain ⟨g8, hg8⟩ : ∃ g, g = w3.heap.size := ⟨_, rfl⟩
  rw [← hg8] at HO ⊢
  clear hg8
  refine key.mono ?_
  clear key
  rintro e w4 p
  by_cases hsz : sizeV v = 0 ∨ sizeV t = 0 ∨ sizeV l = 0
  · obtain ⟨rfl, ht, hf⟩ := p.intro (issueT_no hsz)
    have HX4 := Lib.hid (HXV.out.frm hf)
    have HB4 := Lib.hid (HBV.out.trans ((hf.weak HSW.out).below HBV.out.size))
    have y0 := HX4.out.x0
    have y1 := HX4.out.x1
    have y2 := HX4.out.x2
    have key := r17text_any v t l w4
    rw [textV_no hsz] at key
    clear p ht hf hsz HXV HBV HTV HO
    go_wp2_with fail
    refine key.mono ?_
    clear key
    rintro e w5 ⟨v5, rfl, ho, hb⟩
    obtain ⟨A5, c5, rfl⟩ := ho.slice
    have HB5 := Lib.hid (below_next HB4.out HB4.out.size hb)
    have key := awake17_any w5 (HZ.out.later HB5.out)
    clear ho hb y0 y1 y2
    simp only [List.length_nil]
    go_wp2_with fail
    refine key.mono ?_
    clear key
    rintro e w6 ⟨rfl, hb⟩
    have HB6 := Lib.hid (below_next HB5.out HB5.out.size hb)
    clear hb
    go_wp2_with fail
    go_ret
    exact ⟨rfl, HB6.out⟩
  obtain ⟨row, tx, hTA, -⟩ := issue_at (key := 1) (v := v) (t := t) (l := l) (s := 2) HW3.out (by decide) sec_in21 sec_in22 hsz
  obtain ⟨⟨T4, h⟩, e4⟩ : ∃ r, issueT [secN, secN] 1 v t l 2 = r := ⟨_, rfl⟩
  rw [e4] at hTA
  obtain ⟨rfl, ht, hf⟩ := p.intro e4
  have HX4 := Lib.hid (HXV.out.frm hf)
  have HO4 := Lib.hid (HO.out.frm hf)
  have HB4 := Lib.hid (HBV.out.trans ((hf.weak HSW.out).below HBV.out.size))
  have HT4 := Lib.hid ht
  have TA : Hid (TickAt T4 h 1 (strOfNums (textV v t l)) 2 row tx) := hTA
  have hh := hTA.pos
  have hhb : (h == 0) = false := by simp; exact hh
  have HFh := Lib.hid (fit_in ht.1 hTA.sl.in_)
  have HRV : Hid (∀ now, redeemV T4 1 h now = timeV (some (v, t, l)) 2 now) := fun now => hTA.redeemN hsz
  have hlen := textV_len hsz
  have hl8 : (textV v t l).length ≤ 24 := by have := sizeV_le v; have := sizeV_le t; have := sizeV_le l; omega
  have hlpos : 0 < (textV v t l).length := by omega
  have ht0 : 0 ≤ t ∧ t ≤ 4611686018427387903 := sizeV_pos.1 fun k => hsz (.inr (.inl k))
  have ht1 := ht0.2
  replace ht0 := ht0.1
  have y0 := HX4.out.x0
  have y1 := HX4.out.x1
  have y2 := HX4.out.x2
  have key := r17text_any v t l w4
  obtain ⟨zs, hzs⟩ : ∃ zs, zs = textV v t l := ⟨_, rfl⟩
  rw [← hzs] at key hl8 hlpos
  have HZS := Lib.hid hzs
  have hlb : ((zs.length : Int) == 0) = false := by rw [beq_eq_false_iff_ne]; omega
  clear p ht hf hsz hTA e4 HXV HBV HTV HO hh hzs hlen
  go_wp2_with fail
  refine key.mono ?_
  clear key
  rintro e w5 ⟨v5, rfl, ho, hb⟩
  obtain ⟨A5, c5, rfl⟩ := ho.slice
  have HX5 := Lib.hid (HX4.out.later hb HX4.out.lt)
  have HO5 := Lib.hid (HO4.out.later hb HO4.out.lt)
  have HB5 := Lib.hid (below_next HB4.out HB4.out.size hb)
  have HT5 := Lib.hid (HT4.out.below hb)
  have HZ5 := Lib.hid (ho.rds (B' := 0))
  have hconv := Lib.hid (run_const_bytes w5 #[.int .u8 116, .int .u8 105, .int .u8 99, .int .u8 107, .int .u8 101, .int .u8 116] 6 6)
  obtain ⟨V6, hW⟩ : ∃ V, V = w5.alloc (.cells #[.int .u8 116, .int .u8 105, .int .u8 99, .int .u8 107, .int .u8 101, .int .u8 116] 5 (6, 7)) := ⟨_, rfl⟩
  have hr : Rds 0 V6 .u8 (some ⟨w5.heap.size, 0, none⟩) 6 6 ticketL := by
    rw [hW]
    exact rds_marked (xs := ticketL) (t := 5) (6, 7) rfl (by decide) _ rfl 6 rfl (by decide)
  have hBV : Below w5.heap.size w5 V6 := by rw [hW]; exact below_new _
  have HX6 := Lib.hid (HX5.out.later hBV HX5.out.lt)
  have HO6 := Lib.hid (HO5.out.later hBV HO5.out.lt)
  have HB6 := Lib.hid (below_next HB5.out HB5.out.size hBV)
  have HT6 := Lib.hid (HT5.out.below hBV)
  have HZ6 := Lib.hid (HZ5.out.below hBV)
  have key := open_all 1 h (some ⟨w5.heap.size, 0, none⟩) 6 6 ticketL V6 HT6.out hr HFh.out
  rw [ticket_str, TA.out.sl.open_, show openT 1 row 1 ticketS ticketS = (row, true) from if_pos ⟨rfl, rfl⟩] at key
  clear ho hb hr hBV y0 y1 y2 HX4 HO4 HB4 HT4 HX5 HO5 HB5 HT5 HZ5
  go_wp2_with ((with_reducible show wpList _ _ _ (Oper.mk _ (Op.convert 31 31 _) _ _ _ _ :: _) _ _); refine wp_convert rfl _ _ _ rfl rfl hconv.out ?_)
  rw [← hW]
  clear hW hconv
  refine key.mono ?_
  clear key
  rintro e w7 ⟨rfl, hb⟩
  have HX7 := Lib.hid (HX6.out.later hb HX6.out.lt)
  have HO7 := Lib.hid (HO6.out.later hb HO6.out.lt)
  have HB7 := Lib.hid (below_next HB6.out HB6.out.size hb)
  have HT7 := Lib.hid (HT6.out.below hb)
  have HZ7 := Lib.hid (HZ6.out.below hb)
  have key := look_node row _ w7 HT7.out TA.out.row
  clear hb HX6 HO6 HB6 HT6 HZ6
  go_wp2_with fail
  refine key.mono ?_
  clear key
  rintro e v8 ⟨P8, d8, rfl, ho8, hb⟩
  simp only [List.length_cons, List.length_nil, Nat.zero_add, Nat.reduceAdd] at ho8 ⊢
  obtain ⟨gp, rfl, lgp, -, -⟩ := two_parts ho8
  obtain ⟨w8, hw8⟩ : ∃ w8, w8 = v8.alloc (.cells #[.int .i64 3, .string ByteArray.empty, .slice (some ⟨gp, 0, none⟩) 2 d8] 38) := ⟨_, rfl⟩
  have hbn : Below v8.heap.size v8 w8 := by rw [hw8]; exact below_new _
  have hb' := below_next hb hb.size hbn
  have HRo : Hid (RowAt w8 v8.heap.size gp d8 tx 2) := ⟨by rw [hw8]; exact heap_alloc_new v8 _, (ho8.mono (Nat.zero_le _)).below hbn⟩
  have HX8 := Lib.hid (HX7.out.later hb' HX7.out.lt)
  have HO8 := Lib.hid (HO7.out.later hb' HO7.out.lt)
  have HB8 := Lib.hid (below_next HB7.out HB7.out.size hb')
  have HT8 := Lib.hid (HT7.out.below hb')
  have HZ8 := Lib.hid (HZ7.out.below hb')
  clear ho8 hb hbn hb' lgp HX7 HO7 HB7 HT7 HZ7
  go_wp2_with fail
  rw [← hw8]
  clear hw8
  obtain ⟨gr, hgr⟩ : ∃ g, g = v8.heap.size := ⟨_, rfl⟩
  rw [← hgr] at HRo ⊢
  clear hgr
  have HD : Hid (Below w8.heap.size w8 w8.drew) := (Below.refl _ _).drew
  have q4 := (HRo.out.below HD.out).four
  go_region_held3 (fun w' => w'.cell? ⟨gr, 0, none⟩ = some (.int .i64 3) ∧ w'.cell? ⟨gr, 2, none⟩ = some (.slice (some ⟨gp, 0, none⟩) 2 d8) ∧ w'.cell? ⟨gp, 0, none⟩ = some (.int .i64 tx) ∧ w'.cell? ⟨gp, 1, none⟩ = some (.int .i64 2))
    (first
      | go_keep
      | exact q4
      | exact HRo9.out.four) ((first
    | (go_at_call 15
       have h0 := HD
       have key := text_any A5 zs.length c5 zs w8.drew (HT8.out.below HD.out) (HZ8.out.below HD.out)
       refine key.mono ?_
       clear key
       rintro e w9 p
       obtain ⟨rfl, ht, hf⟩ := p.intro (text_there HT8.out.1 (by have := TA.out.text; rw [← HZS.out] at this; exact this) (by rw [strOfNums_size]; omega))
       have HRo9 := Lib.hid ((HRo.out.below HD.out).frm hf)
       have HX9 := Lib.hid ((HX8.out.later HD.out HX8.out.lt).frm hf)
       have HO9 := Lib.hid ((HO8.out.later HD.out HO8.out.lt).frm hf)
       have HB9 : Hid (Below w.heap.size w w9) := (below_next HB8.out HB8.out.size HD.out).trans ((hf.weak HSW.out).below (by have := HB8.out.size; simpa using this))
       have HT9 := Lib.hid ht
       clear h0 HD p ht hf HX8 HO8 HB8 HT8 HZ8 HRo q4)))
  rename_i hHeld
  clear hHeld
  have hn1 := HN.out.2
  by_cases h1 : now < t
  · have key := redeem_any 1 h now w9 HT9.out HFh.out HN.out
    rw [HRV.out, show timeV (some (v, t, l)) 2 now = ((0, 0, 0, 0), 9) from if_pos (.inl h1)] at key
    go_wp2_with fail
    refine key.mono ?_
    clear key
    rintro e w10 ⟨rfl, hb⟩
    have HX10 := Lib.hid (HX9.out.later hb HX9.out.lt)
    have HO10 := Lib.hid (HO9.out.later hb HO9.out.lt)
    have y1 := HX10.out.x1
    have y2 := HX10.out.x2
    have z0 := HO10.out.x0
    have z1 := HO10.out.x1
    have z2 := HO10.out.x2
    have z3 := HO10.out.x3
    have lx := HX10.out.lt
    have lo := HO10.out.lt
    have HB11 := Lib.hid (below_next HB9.out HB9.out.size (below_next hb hb.size (below_new (.cells #[.int .i64 0, .int .i64 0, .int .i64 0, .int .i64 0] 29))))
    have key := awake17_any _ (HZ.out.later HB11.out)
    clear hb HX9 HO9 HB9 HT9
    go_wp2_with fail
    refine key.mono ?_
    clear key
    rintro e w12 ⟨rfl, hb⟩
    have HB12 := Lib.hid (below_next HB11.out HB11.out.size hb)
    clear hb
    go_wp2_with fail
    go_ret
    exact ⟨rfl, HB12.out⟩
  have hsub : IntKind.i64.wrap (now - t) = now - t := by rw [IntKind.wrap_i64]; omega
  by_cases h2 : l < now - t
  · have key := redeem_any 1 h now w9 HT9.out HFh.out HN.out
    rw [HRV.out, show timeV (some (v, t, l)) 2 now = ((0, 0, 0, 0), 9) from if_pos (.inr h2)] at key
    go_wp2_with fail
    refine key.mono ?_
    clear key
    rintro e w10 ⟨rfl, hb⟩
    have HX10 := Lib.hid (HX9.out.later hb HX9.out.lt)
    have HO10 := Lib.hid (HO9.out.later hb HO9.out.lt)
    have y1 := HX10.out.x1
    have y2 := HX10.out.x2
    have z0 := HO10.out.x0
    have z1 := HO10.out.x1
    have z2 := HO10.out.x2
    have z3 := HO10.out.x3
    have lx := HX10.out.lt
    have lo := HO10.out.lt
    have HB11 := Lib.hid (below_next HB9.out HB9.out.size (below_next hb hb.size (below_new (.cells #[.int .i64 0, .int .i64 0, .int .i64 0, .int .i64 0] 29))))
    have key := awake17_any _ (HZ.out.later HB11.out)
    clear hb HX9 HO9 HB9 HT9
    go_wp2_with fail
    refine key.mono ?_
    clear key
    rintro e w12 ⟨rfl, hb⟩
    have HB12 := Lib.hid (below_next HB11.out HB11.out.size hb)
    clear hb
    go_wp2_with fail
    go_ret
    exact ⟨rfl, HB12.out⟩
  · have key := redeem_any 1 h now w9 HT9.out HFh.out HN.out
    rw [HRV.out, show timeV (some (v, t, l)) 2 now = ((v, t, l, 2), 0) from if_neg (by omega)] at key
    go_wp2_with fail
    refine key.mono ?_
    clear key
    rintro e w10 ⟨rfl, hb⟩
    have HX10 := Lib.hid (HX9.out.later hb HX9.out.lt)
    have HO10 := Lib.hid (HO9.out.later hb HO9.out.lt)
    have y1 := HX10.out.x1
    have y2 := HX10.out.x2
    have z0 := HO10.out.x0
    have z1 := HO10.out.x1
    have z2 := HO10.out.x2
    have z3 := HO10.out.x3
    have lx := HX10.out.lt
    have lo := HO10.out.lt
    have HB11 := Lib.hid (below_next HB9.out HB9.out.size (below_next hb hb.size (below_new (.cells #[.int .i64 v, .int .i64 t, .int .i64 l, .int .i64 2] 29))))
    have key := awake17_any _ (HZ.out.later HB11.out)
    clear hb HX9 HO9 HB9 HT9
    go_wp2_with fail
    refine key.mono ?_
    clear key
    rintro e w12 ⟨rfl, hb⟩
    have HB12 := Lib.hid (below_next HB11.out HB11.out.size hb)
    clear hb
    go_wp2_with fail
    go_ret
    exact ⟨rfl, HB12.out⟩
theorem issues_row {v0 : Value} (w : World) (hz : Tz w) (h0 : Tk3Arg v0) (now : Int) (wn : (Lit.int .i64 now).wf = true) :
    Calls Tryd.prog 3 #[v0, .int .i64 now] w fun e w' => e = .returned (.bool true) ∧ Below w.heap.size w w' := by
  obtain ⟨v, t, l, rfl⟩ := h0
  exact issues_walk w hz v t l now (wf_i64 wn)
end Go.Proofs.YtbcicfgffjgpdaaDoor
