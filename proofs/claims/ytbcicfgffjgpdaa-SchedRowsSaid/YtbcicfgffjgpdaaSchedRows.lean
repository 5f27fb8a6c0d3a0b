/- The walk of SchedRows. No condition. Printed by gen_schedrows.py. -/
import Derived.Test.YtbcicfgffjgpdaaSchedTickets
import Derived.Test.YtbcicfgffjgpdaaSchedRw
set_option linter.unusedVariables false
set_option linter.unusedSimpArgs false
namespace Go.Proofs.Ytbcicfgffjgpdaa
open Go Go.RowKit Go.WideMaps

theorem der0_em {T : List Nd} (hw : WfT T) {x s em : Int} {l : ByteArray} (h : Der0 T x s l) (he : getT T em = some (nT ByteArray.empty)) : DerAt T x s l em := by
  obtain ⟨c, h1, h2⟩ := h
  rwa [text_uniq hw h2 he] at h1
/-- A local node of kind 5 and its two parts. -/
def Loc (W : World) (l g c : Nat) (d tr : Int) : Prop :=
  W.heap[l]? = some (.cells #[.int .i64 5, .string ByteArray.empty, .slice (some ⟨g, 0, none⟩) 2 c] 47 (0, 0)) ∧ OwnI W 0 .i64 (.slice (some ⟨g, 0, none⟩) 2 c) [d, tr]
theorem Loc.below {W W' : World} {l g c : Nat} {d tr : Int} (h : Loc W l g c d tr) (hb : Below W.heap.size W W') : Loc W' l g c d tr := ⟨(hb.block _ (lt_of_get h.1)).trans h.1, h.2.below hb⟩
theorem Loc.frm {W W' : World} {B l g c : Nat} {d tr : Int} (h : Loc W l g c d tr) (hf : Frm tabO B W W') : Loc W' l g c d tr := ⟨hf.block _ _ h.1 (.inr rfl), h.2.frm hf.tab_sp⟩
theorem Loc.lt {W : World} {l g c : Nat} {d tr : Int} (h : Loc W l g c d tr) : l < W.heap.size ∧ g < W.heap.size := ⟨lt_of_get h.1, (h.2.lt g rfl).2⟩
theorem Loc.kind {W : World} {l g c : Nat} {d tr : Int} (h : Loc W l g c d tr) : W.cell? ⟨l, 0, none⟩ = some (.int .i64 5) := by rw [cell_of_row W l 0 _ _ _ h.1]; rfl
theorem Loc.parts {W : World} {l g c : Nat} {d tr : Int} (h : Loc W l g c d tr) : W.cell? ⟨l, 2, none⟩ = some (.slice (some ⟨g, 0, none⟩) 2 c) := by rw [cell_of_row W l 2 _ _ _ h.1]; rfl
theorem OwnI.cells2 {W : World} {g c : Nat} {d tr : Int} (h : OwnI W 0 .i64 (.slice (some ⟨g, 0, none⟩) 2 c) [d, tr]) : W.cell? ⟨g, 0, none⟩ = some (.int .i64 d) ∧ W.cell? ⟨g, 1, none⟩ = some (.int .i64 tr) := by
  obtain ⟨g', cap, q1, -, -, -, q5, -⟩ := h.form (by simp)
  simp only [Value.slice.injEq] at q1
  obtain ⟨e, -, -⟩ := q1
  cases e
  exact ⟨q5 0 (by simp), q5 1 (by simp)⟩
theorem Loc.head {W : World} {l g c : Nat} {d tr : Int} (h : Loc W l g c d tr) : W.cell? ⟨g, 0, none⟩ = some (.int .i64 d) := h.2.cells2.1
theorem Loc.tail {W : World} {l g c : Nat} {d tr : Int} (h : Loc W l g c d tr) : W.cell? ⟨g, 1, none⟩ = some (.int .i64 tr) := h.2.cells2.2
theorem OwnI.tail2 {W : World} {g c : Nat} {d tr : Int} (h : OwnI W 0 .i64 (.slice (some ⟨g, 0, none⟩) 2 c) [d, tr]) : W.cell? ⟨g, 1, none⟩ = some (.int .i64 tr) := h.cells2.2

set_option maxHeartbeats 12800000 in
set_option maxRecDepth 100000 in
theorem schedrows_walk (w : World) (A0 : Option Addr) (n0 c0 : Nat) (gs : List Int) (hg : Rds w.heap.size w .u8 A0 n0 c0 gs) (A1 : Option Addr) (n1 c1 : Nat) (L : List (List Int)) (h1 : RdRows w.heap.size w A1 n1 L) (ticket : Bool) :
    Calls Try.prog 7 #[.slice A0 n0 c0, .slice A1 n1 c1, .bool ticket] w (AwakePost w) := by
  have HG := Lib.hid hg
  have H1 := Lib.hid h1
  have hgl := hg.len
  clear hg h1
  go_enter Try.func7, Try.ntmps7
  by_cases k0 : 50 < n0
  · have HGL := Lib.hid hgl
    clear hgl
    go_wp2_with fail
    go_ret
    exact ⟨rfl, Below.refl _ _⟩
  have HGL : Hid (gs.length ≤ 50) := by show _ ≤ _; omega
  clear hgl
  by_cases k1 : 10 < n1
  · go_wp2_with fail
    go_ret
    exact ⟨rfl, Below.refl _ _⟩
  go_wp2_with fail
  refine (new_any w).mono ?_
  rintro e w1 ⟨tb, rfl, ht1, hb1⟩
  have key := begin_any w1 ht1
  have HF1 := Lib.hid (Frm.of_below (C := tabO) (B := w.heap.size) hb1)
  clear ht1 hb1
  go_wp2_with fail
  refine key.mono ?_
  clear key
  rintro e w2 p2
  obtain ⟨rfl, ht2, hf2⟩ := p2.intro begin_eq
  have HF2 := Lib.hid (HF1.out.trans hf2)
  have HT2 := Lib.hid ht2
  have HB2 := Lib.hid (HF2.out.below (Nat.le_refl _))
  clear p2 ht2 hf2 HF1 HF2
  go_wp2_with fail
  go_loopw [8, 9] (fun x i wr => ∃ (k : Nat) (T : List Nd) (tr : Int), k ≤ n1 ∧ i = .int .i64 k ∧ x = .int .i64 tr ∧ IsTab w.heap.size wr tb T ∧ In T tr ∧ getT T 1 = some (nT ByteArray.empty) ∧ T.length ≤ 1 + 5 * k ∧ Below w.heap.size w wr) (fun _ i _ => n1 - (intOf i).toNat)
  case atStart => exact ⟨0, [nT ByteArray.empty], 1, Nat.zero_le _, rfl, rfl, HT2.out, ⟨_, rfl⟩, rfl, by simp, HB2.out⟩
  case round =>
    obtain ⟨k, T0, tr, hk, rfl, rfl, ht, hx, hy, hTl, hb⟩ := hrel
    have IX := Lib.hid hx
    have EM := Lib.hid hy
    have HT0 := Lib.hid ht
    have HB0 := Lib.hid hb
    have FT : Hid (Fit tr) := by have := hx.range; have := ht.1.len; exact ⟨by omega, by omega⟩
    clear hx hy ht hb HT2 HB2
    by_cases hlt : k < n1
    · obtain ⟨xs, hxs⟩ : ∃ xs, L[k]? = some xs := ⟨_, List.getElem?_eq_getElem (by have := H1.out.1; omega)⟩
      obtain ⟨b, o, A', c', rfl, x0, hr⟩ := (H1.out.below HB0.out).at_ hxs
      have hi0 : (0 : Int) ≤ (k : Int) := by omega
      have hi1 : (k : Int) < (n1 : Int) := by omega
      by_cases hlong : 200 < xs.length
      · clear hr
        go_wp2_with fail
        go_ret
        exact ⟨rfl, HB0.out⟩
      have HXS := Lib.hid hxs
      clear hxs
      have key := next_any tr A' _ c' xs wr HT0.out hr FT.out
      have S := next_spec (T := T0) (tr := tr) (m := strOfNums xs) HT0.out.1 (by rw [strOfNums_size]; omega) (by omega) IX.out
      have E := nextT_ext T0 tr (strOfNums xs)
      clear hr
      go_wp2_with fail
      refine key.mono ?_
      clear key
      rintro e w4 p4
      obtain ⟨T4, h4, e4, rfl, ht4, hf4⟩ := TabPost.of (Frm.refl _ _ _) p4
      rw [e4] at S E
      simp only at S E
      obtain ⟨row, tx, S1, S2, S3⟩ := S
      have hl4 : T4.length ≤ 4 + 5 * k := by have := E.len; omega
      have hrx := getT_range S3
      have hrh := getT_range S1
      have HB4 := Lib.hid (HB0.out.trans (hf4.below HB0.out.size))
      obtain ⟨b', o', A4, c4, ee, x4, hr4⟩ := (H1.out.below HB4.out).at_ HXS.out
      cases ee
      have key := text_any A4 _ c4 xs w4 ht4 hr4
      have E5 := text_have ht4.1 S3 (by rw [strOfNums_size]; omega)
      have G1 := Lib.hid S1
      have G2 := Lib.hid S2
      have G3 := Lib.hid S3
      have XE := Lib.hid E
      clear p4 e4 ht4 hf4 S1 S2 S3 E hr4 x0
      go_wp2_with fail
      refine key.mono ?_
      clear key
      rintro e w5 p5
      obtain ⟨rfl, ht5, hf5⟩ := p5.intro E5
      have HB5 := Lib.hid (HB4.out.trans (hf5.below HB4.out.size))
      have key := make_fit (g := w5.heap.size) (t := 25) 3 [tr, tx] w5 ht5 rfl (by simp; exact ⟨FT.out, by omega, by omega⟩) (by simp) _ rfl (by decide) 2 rfl
      have S := make_row ht5.1 (by omega) (p := [tr, tx]) (by simp; exact ⟨IX.out.ext XE.out, .of G3.out⟩) (by simp)
      have X := makeT_ext T4 3 [tr, tx]
      clear p5 ht5 hf5 E5 x4
      go_wp2_with fail
      refine key.mono ?_
      clear key
      rintro e w6 p6
      obtain ⟨T6, r6, e6, rfl, ht6, hf6⟩ := TabPost.of (Frm.refl _ _ _) p6
      rw [e6] at S X
      simp only at S X
      have hr6 : r6 = row := getT_uniq ht6.1 S (X.get G2.out) (show (3 : Int) ≠ 2 by decide)
      have hrr := getT_range S
      have hl6 : T6.length ≤ 5 + 5 * k := by have := X.len; omega
      subst hr6
      have HB6 := Lib.hid (HB5.out.trans (hf6.below HB5.out.size))
      have G4 := Lib.hid (X.get G1.out)
      have EM6 : Hid (getT T6 1 = some (nT ByteArray.empty)) := X.get (XE.out.get EM.out)
      have HT6 := Lib.hid ht6
      have key := is_lit (g := w6.heap.size) (t := 25) h4 4 [r6] w6 ht6 rfl ⟨by omega, by omega⟩ (by simp) _ rfl (by decide) 1 rfl
      rw [isT_at G4.out, decide_eq_true ⟨rfl, rfl⟩] at key
      clear p6 e6 ht6 hf6 S X
      go_wp2_with fail
      refine key.mono ?_
      clear key
      rintro e w7 ⟨rfl, hb7⟩
      have HT7 := Lib.hid (HT6.out.below hb7)
      have HB7 := Lib.hid (below_next HB6.out HB6.out.size hb7)
      clear hb7
      go_wp2_with fail
      go_roundw
      case rel => exact ⟨k + 1, T6, h4, by omega, by go_num, rfl, HT7.out, .of G4.out, EM6.out, by omega, HB7.out⟩
      case measure => simp [intOf]; omega
    · obtain rfl : k = n1 := by omega
      have L0 : Hid (T0.length ≤ 51) := by show _ ≤ _; omega
      clear hTl
      obtain ⟨w0, hw0⟩ : ∃ w0, w0 = wr := ⟨_, rfl⟩
      rw [← hw0] at HT0 HB0 ⊢
      clear hw0
      have key := secret_any w0 HT0.out
      go_wp2_with fail
      refine key.mono ?_
      clear key
      rintro e w1 p
      have S := secret_get (T := T0) (by have := L0.out; omega)
      have X := secretT_ext T0
      obtain ⟨⟨T1, x⟩, e1⟩ : ∃ r, secretT T0 = r := ⟨_, rfl⟩
      obtain ⟨rfl, ht, hf⟩ := p.intro e1
      rw [e1] at S X
      simp only at S X
      have HT1 := Lib.hid ht
      have HB1 := Lib.hid (HB0.out.trans (hf.below HB0.out.size))
      have L1 : Hid (T1.length ≤ 52) := by show _ ≤ _; have := X.len; have := L0.out; omega
      have X1 := Lib.hid X
      have SX : Hid (getT T1 x = some ⟨2, ByteArray.empty, []⟩) := S
      have Fx : Hid (Fit x) := by have := (In.of SX.out).range; have := L1.out; exact ⟨by omega, by omega⟩
      clear p e1 ht hf S X HT0 HB0
      have key := secret_any w1 HT1.out
      go_wp2_with fail
      refine key.mono ?_
      clear key
      rintro e w2 p
      have S := secret_get (T := T1) (by have := L1.out; omega)
      have X := secretT_ext T1
      obtain ⟨⟨T2, y⟩, e1⟩ : ∃ r, secretT T1 = r := ⟨_, rfl⟩
      obtain ⟨rfl, ht, hf⟩ := p.intro e1
      rw [e1] at S X
      simp only at S X
      have HT2 := Lib.hid ht
      have HB2 := Lib.hid (HB1.out.trans (hf.below HB1.out.size))
      have L2 : Hid (T2.length ≤ 53) := by show _ ≤ _; have := X.len; have := L1.out; omega
      have X2 := Lib.hid X
      have SY : Hid (getT T2 y = some ⟨2, ByteArray.empty, []⟩) := S
      have Fy : Hid (Fit y) := by have := (In.of SY.out).range; have := L2.out; exact ⟨by omega, by omega⟩
      clear p e1 ht hf S X HT1 HB1
      have key := make_fit (g := w2.heap.size) (t := 25) 7 [y] w2 HT2.out rfl (by simp; exact Fy.out) (by simp) _ rfl (by decide) 1 rfl
      go_wp2_with fail
      refine key.mono ?_
      clear key
      rintro e w3 p
      have S := make_public HT2.out.1 (by have := L2.out; omega) (x := y) (by unfold kindT; rw [SY.out])
      have X := makeT_ext T2 7 [y]
      obtain ⟨⟨T3, q⟩, e1⟩ : ∃ r, makeT T2 7 [y] = r := ⟨_, rfl⟩
      obtain ⟨rfl, ht, hf⟩ := p.intro e1
      rw [e1] at S X
      simp only at S X
      have HT3 := Lib.hid ht
      have HB3 := Lib.hid (HB2.out.trans (hf.below HB2.out.size))
      have L3 : Hid (T3.length ≤ 54) := by show _ ≤ _; have := X.len; have := L2.out; omega
      have X3 := Lib.hid X
      have SQ : Hid (getT T3 q = some ⟨7, ByteArray.empty, [y]⟩) := S
      have Fq : Hid (Fit q) := by have := (In.of SQ.out).range; have := L3.out; exact ⟨by omega, by omega⟩
      clear p e1 ht hf S X HT2 HB2
      have key := make_fit (g := w3.heap.size) (t := 25) 8 [x, q] w3 HT3.out rfl (by simp; exact ⟨Fx.out, Fq.out⟩) (by simp) _ rfl (by decide) 2 rfl
      go_wp2_with fail
      refine key.mono ?_
      clear key
      rintro e w4 p
      have S := make_shared HT3.out.1 (by have := L3.out; omega) (x := x) (y := q) (s := y) (by unfold kindT; rw [((X2.out.trans X3.out).get SX.out)]) SQ.out rfl rfl
      have X := makeT_ext T3 8 [x, q]
      obtain ⟨⟨T4, sh⟩, e1⟩ : ∃ r, makeT T3 8 [x, q] = r := ⟨_, rfl⟩
      obtain ⟨rfl, ht, hf⟩ := p.intro e1
      rw [e1] at S X
      simp only at S X
      have HT4 := Lib.hid ht
      have HB4 := Lib.hid (HB3.out.trans (hf.below HB3.out.size))
      have L4 : Hid (T4.length ≤ 55) := by show _ ≤ _; have := X.len; have := L3.out; omega
      have X4 := Lib.hid X
      have SH : Hid (getT T4 sh = some ⟨8, ByteArray.empty, sort2 x y⟩) := S
      have Fsh : Hid (Fit sh) := by have := (In.of SH.out).range; have := L4.out; exact ⟨by omega, by omega⟩
      clear p e1 ht hf S X HT3 HB3
      have hconv := Lib.hid (run_const_bytes w4 #[.int .u8 110, .int .u8 111, .int .u8 110, .int .u8 101] 4 4)
      obtain ⟨V, hW⟩ : ∃ V, V = w4.alloc (.cells #[.int .u8 110, .int .u8 111, .int .u8 110, .int .u8 101] 5 (4, 5)) := ⟨_, rfl⟩
      have hr : Rds 0 V .u8 (some ⟨w4.heap.size, 0, none⟩) 4 4 noneL := by
        rw [hW]
        exact rds_marked (xs := noneL) (t := 5) (4, 5) rfl (by decide) _ rfl 4 rfl (by decide)
      have HBV : Hid (Below w4.heap.size w4 V) := by rw [hW]; exact below_new _
      have HTW := Lib.hid (HT4.out.below HBV.out)
      have HBW := Lib.hid (below_next HB4.out HB4.out.size HBV.out)
      have key := text_any (some ⟨w4.heap.size, 0, none⟩) 4 4 noneL V HTW.out hr
      rw [none_str] at key
      go_wp2_with ((with_reducible show wpList _ _ _ (Oper.mk _ (Op.convert 27 27 _) _ _ _ _ :: _) _ _); refine wp_convert rfl _ _ _ rfl rfl hconv.out ?_)
      rw [← hW]
      clear hW
      refine key.mono ?_
      clear key
      rintro e w5 p
      have S := text_get (T := T4) (b := lbNone) (by decide) (by have := L4.out; omega)
      have X := textT_ext T4 lbNone
      obtain ⟨⟨T5, nn⟩, e1⟩ : ∃ r, textT T4 lbNone = r := ⟨_, rfl⟩
      obtain ⟨rfl, ht, hf⟩ := p.intro e1
      rw [e1] at S X
      simp only at S X
      have HT5 := Lib.hid ht
      have HB5 := Lib.hid (HBW.out.trans (hf.below HBW.out.size))
      have L5 : Hid (T5.length ≤ 56) := by show _ ≤ _; have := X.len; have := L4.out; omega
      have X5 := Lib.hid X
      have SN : Hid (getT T5 nn = some (nT lbNone)) := S
      have Fnn : Hid (Fit nn) := by have := (In.of SN.out).range; have := L5.out; exact ⟨by omega, by omega⟩
      clear p e1 ht hf S X HT4 HB4 HBW HTW hconv HBV
      clear hr
      cases ticket
      case false =>
        have key := first_any A0 n0 c0 gs w5 HT5.out (HG.out.below HB5.out) (by have := L5.out; omega)
        go_wp2_with fail
        refine key.mono ?_
        clear key
        rintro e w6 p
        obtain ⟨gx, S1, S2, S3, X⟩ := first_spec (T := T5) (g := strOfNums gs) HT5.out.1 (by rw [strOfNums_size]; have := HGL.out; omega) (by have := L5.out; omega)
        obtain ⟨⟨T6, a, b⟩, e1⟩ : ∃ r, firstT T5 (strOfNums gs) = r := ⟨_, rfl⟩
        obtain ⟨rfl, ht, hf⟩ := p.intro e1
        rw [e1] at S1 S2 S3 X
        simp only at S1 S2 S3 X
        have HT6 := Lib.hid ht
        have HB6 := Lib.hid (HB5.out.trans (hf.below HB5.out.size))
        have L6 : Hid (T6.length ≤ 63) := by show _ ≤ _; have := X.len; have := L5.out; omega
        have X6 := Lib.hid X
        have SG : Hid (getT T6 gx = some (nT (strOfNums gs))) := S1
        have DA : Hid (Der0 T6 a gx lbClientIn) := S2
        have DB : Hid (Der0 T6 b gx lbServerIn) := S3
        have Fa : Hid (Fit a) := by have := DA.out.in_.range; have := L6.out; exact ⟨by omega, by omega⟩
        have Fb : Hid (Fit b) := by have := DB.out.in_.range; have := L6.out; exact ⟨by omega, by omega⟩
        have Fgx : Hid (Fit gx) := by have := (In.of SG.out).range; have := L6.out; exact ⟨by omega, by omega⟩
        clear p e1 ht hf S1 S2 S3 X HT5 HB5
        have key := text_any A0 n0 c0 gs w6 HT6.out (HG.out.below HB6.out)
        go_wp2_with fail
        refine key.mono ?_
        clear key
        rintro e w7 p
        obtain ⟨rfl, ht, hf⟩ := p.intro (text_have HT6.out.1 SG.out (by rw [strOfNums_size]; have := HGL.out; omega))
        have HT7 := Lib.hid ht
        have HB7 := Lib.hid (HB6.out.trans (hf.below HB6.out.size))
        clear p ht hf HT6 HB6
        have key := early_any 0 w7 HT7.out ⟨by omega, by omega⟩
        go_wp2_with fail
        refine key.mono ?_
        clear key
        rintro e w8 p
        obtain ⟨own, S1, S2, S3, X⟩ := early_spec (T := T6) (h := 0) HT7.out.1 (by have := L6.out; omega) (.inl rfl)
        obtain ⟨⟨T7, e0⟩, e1⟩ : ∃ r, earlyT T6 0 = r := ⟨_, rfl⟩
        obtain ⟨rfl, ht, hf⟩ := p.intro e1
        rw [e1] at S2 S3 X
        simp only at S2 S3 X
        have HT8 := Lib.hid ht
        have HB8 := Lib.hid (HB7.out.trans (hf.below HB7.out.size))
        have HXN := Lib.hid X6.out
        have hown : own = nn := text_uniq ht.1 (S2 trivial) ((HXN.out.trans X).get SN.out)
        rw [hown] at S3
        have DE : Hid (Der0 T7 e0 nn lbEarly) := S3
        have L7 : Hid (T7.length ≤ 67) := by show _ ≤ _; have := X.len; have := L6.out; omega
        have X7 := Lib.hid X
        clear p e1 ht hf S2 S3 X HT7 HB7
        have Fe0 : Hid (Fit e0) := by have := DE.out.in_.range; have := L7.out; exact ⟨by omega, by omega⟩
        clear S1 hown own HXN
        have key := shaken_any e0 sh w8 HT8.out Fe0.out Fsh.out
        go_wp2_with fail
        refine key.mono ?_
        clear key
        rintro e w9 p
        obtain ⟨r, S1, S2, X⟩ := shaken_spec (T := T7) (e := e0) (s := sh) HT8.out.1 (by have := L7.out; omega) DE.out.in_ (In.of ((X5.out.trans (X6.out.trans X7.out)).get SH.out))
        obtain ⟨⟨T8, s⟩, e1⟩ : ∃ r, shakenT T7 e0 sh = r := ⟨_, rfl⟩
        obtain ⟨rfl, ht, hf⟩ := p.intro e1
        rw [e1] at S1 S2 X
        simp only at S1 S2 X
        have HT9 := Lib.hid ht
        have HB9 := Lib.hid (HB8.out.trans (hf.below HB8.out.size))
        have L8 : Hid (T8.length ≤ 71) := by show _ ≤ _; have := X.len; have := L7.out; omega
        have X8 := Lib.hid X
        have GR : Hid (getT T8 r = some ⟨3, ByteArray.empty, [e0, sh]⟩) := S1
        have DS : Hid (Der0 T8 s r lbHandshake) := S2
        have Fs : Hid (Fit s) := by have := DS.out.in_.range; have := L8.out; exact ⟨by omega, by omega⟩
        have Fr : Hid (Fit r) := by have := (In.of GR.out).range; have := L8.out; exact ⟨by omega, by omega⟩
        clear p e1 ht hf S1 S2 X HT8 HB8
        have key := shakenTraffic_any s tr w9 HT9.out Fs.out FT.out
        go_wp2_with fail
        refine key.mono ?_
        clear key
        rintro e w10 p
        obtain ⟨S1, S2, X⟩ := pair_spec (T := T8) (s := s) (tr := tr) (l1 := lbClientHs) (l2 := lbServerHs) HT9.out.1 (by decide) (by decide) (by have := L8.out; omega) DS.out.in_ (IX.out.ext (X1.out.trans (X2.out.trans (X3.out.trans (X4.out.trans (X5.out.trans (X6.out.trans (X7.out.trans X8.out))))))))
        obtain ⟨⟨T9, c1, s1⟩, e1⟩ : ∃ r, pairT T8 lbClientHs lbServerHs s tr = r := ⟨_, rfl⟩
        obtain ⟨rfl, ht, hf⟩ := p.intro e1
        rw [e1] at S1 S2 X
        simp only at S1 S2 X
        have HT10 := Lib.hid ht
        have HB10 := Lib.hid (HB9.out.trans (hf.below HB9.out.size))
        have L9 : Hid (T9.length ≤ 77) := by show _ ≤ _; have := X.len; have := L8.out; omega
        have X9 := Lib.hid X
        have DC1 : Hid (DerAt T9 c1 s lbClientHs tr) := S1
        have DS1 : Hid (DerAt T9 s1 s lbServerHs tr) := S2
        have Fc1 : Hid (Fit c1) := by have := DC1.out.in_.range; have := L9.out; exact ⟨by omega, by omega⟩
        have Fs1 : Hid (Fit s1) := by have := DS1.out.in_.range; have := L9.out; exact ⟨by omega, by omega⟩
        clear p e1 ht hf S1 S2 X HT9 HB9
        have key := main_any s w10 HT10.out Fs.out
        go_wp2_with fail
        refine key.mono ?_
        clear key
        rintro e w11 p
        obtain ⟨S1, X⟩ := der_zero (T := T9) (s := s) (l := lbMain) HT10.out.1 (by decide) (by have := L9.out; omega) (DS.out.ext X9.out).in_
        obtain ⟨⟨T10, m⟩, e1⟩ : ∃ r, deriveT T9 s lbMain 0 = r := ⟨_, rfl⟩
        obtain ⟨rfl, ht, hf⟩ := p.intro e1
        rw [e1] at S1 X
        simp only at S1 X
        have HT11 := Lib.hid ht
        have HB11 := Lib.hid (HB10.out.trans (hf.below HB10.out.size))
        have L10 : Hid (T10.length ≤ 80) := by show _ ≤ _; have := X.len; have := L9.out; omega
        have X10 := Lib.hid X
        have DM : Hid (Der0 T10 m s lbMain) := S1
        have Fm : Hid (Fit m) := by have := DM.out.in_.range; have := L10.out; exact ⟨by omega, by omega⟩
        clear p e1 ht hf S1 X HT10 HB10
        have key := mainTraffic_any m tr w11 HT11.out Fm.out FT.out
        go_wp2_with fail
        refine key.mono ?_
        clear key
        rintro e w12 p
        obtain ⟨S1, S2, X⟩ := pair_spec (T := T10) (s := m) (tr := tr) (l1 := lbClientApp) (l2 := lbServerApp) HT11.out.1 (by decide) (by decide) (by have := L10.out; omega) DM.out.in_ (IX.out.ext (X1.out.trans (X2.out.trans (X3.out.trans (X4.out.trans (X5.out.trans (X6.out.trans (X7.out.trans (X8.out.trans (X9.out.trans X10.out))))))))))
        obtain ⟨⟨T11, c2, s2⟩, e1⟩ : ∃ r, pairT T10 lbClientApp lbServerApp m tr = r := ⟨_, rfl⟩
        obtain ⟨rfl, ht, hf⟩ := p.intro e1
        rw [e1] at S1 S2 X
        simp only at S1 S2 X
        have HT12 := Lib.hid ht
        have HB12 := Lib.hid (HB11.out.trans (hf.below HB11.out.size))
        have L11 : Hid (T11.length ≤ 86) := by show _ ≤ _; have := X.len; have := L10.out; omega
        have X11 := Lib.hid X
        have DC2 : Hid (DerAt T11 c2 m lbClientApp tr) := S1
        have DS2 : Hid (DerAt T11 s2 m lbServerApp tr) := S2
        have Fc2 : Hid (Fit c2) := by have := DC2.out.in_.range; have := L11.out; exact ⟨by omega, by omega⟩
        have Fs2 : Hid (Fit s2) := by have := DS2.out.in_.range; have := L11.out; exact ⟨by omega, by omega⟩
        clear p e1 ht hf S1 S2 X HT11 HB11
        have key := finished_any c1 tr w12 HT12.out Fc1.out FT.out (by have := L11.out; omega)
        go_wp2_with fail
        refine key.mono ?_
        clear key
        rintro e w13 p
        obtain ⟨d, S1, S2, X⟩ := mac_spec (T := T11) (k := c1) (tr := tr) (l := lbFinished) HT12.out.1 (by decide) (by have := L11.out; omega) (DC1.out.ext (X10.out.trans X11.out)).in_ (IX.out.ext (X1.out.trans (X2.out.trans (X3.out.trans (X4.out.trans (X5.out.trans (X6.out.trans (X7.out.trans (X8.out.trans (X9.out.trans (X10.out.trans X11.out)))))))))))
        obtain ⟨⟨T12, f⟩, e1⟩ : ∃ r, macT T11 lbFinished c1 tr = r := ⟨_, rfl⟩
        obtain ⟨rfl, ht, hf⟩ := p.intro e1
        rw [e1] at S1 S2 X
        simp only at S1 S2 X
        have HT13 := Lib.hid ht
        have HB13 := Lib.hid (HB12.out.trans (hf.below HB12.out.size))
        have L12 : Hid (T12.length ≤ 90) := by show _ ≤ _; have := X.len; have := L11.out; omega
        have X12 := Lib.hid X
        have DF : Hid (Der0 T12 d c1 lbFinished) := S1
        have GF : Hid (getT T12 f = some ⟨5, ByteArray.empty, [d, tr]⟩) := S2
        have Ff : Hid (Fit f) := by have := (In.of GF.out).range; have := L12.out; exact ⟨by omega, by omega⟩
        clear p e1 ht hf S1 S2 X HT12 HB12
        have key := binder_any e0 tr w13 HT13.out Fe0.out FT.out (by have := L12.out; omega)
        go_wp2_with fail
        refine key.mono ?_
        clear key
        rintro e w14 p
        obtain ⟨d2, S1, S2, X⟩ := mac_spec (T := T12) (k := e0) (tr := tr) (l := lbBinder) HT13.out.1 (by decide) (by have := L12.out; omega) (DE.out.ext (X8.out.trans (X9.out.trans (X10.out.trans (X11.out.trans X12.out))))).in_ (IX.out.ext (X1.out.trans (X2.out.trans (X3.out.trans (X4.out.trans (X5.out.trans (X6.out.trans (X7.out.trans (X8.out.trans (X9.out.trans (X10.out.trans (X11.out.trans X12.out))))))))))))
        obtain ⟨⟨T13, i⟩, e1⟩ : ∃ r, macT T12 lbBinder e0 tr = r := ⟨_, rfl⟩
        obtain ⟨rfl, ht, hf⟩ := p.intro e1
        rw [e1] at S1 S2 X
        simp only at S1 S2 X
        have HT14 := Lib.hid ht
        have HB14 := Lib.hid (HB13.out.trans (hf.below HB13.out.size))
        have L13 : Hid (T13.length ≤ 94) := by show _ ≤ _; have := X.len; have := L12.out; omega
        have X13 := Lib.hid X
        have DI : Hid (Der0 T13 d2 e0 lbBinder) := S1
        have GI : Hid (getT T13 i = some ⟨5, ByteArray.empty, [d2, tr]⟩) := S2
        have Fi : Hid (Fit i) := by have := (In.of GI.out).range; have := L13.out; exact ⟨by omega, by omega⟩
        clear p e1 ht hf S1 S2 X HT13 HB13
        have key := signed_any tr w14 HT14.out FT.out
        go_wp2_with fail
        refine key.mono ?_
        clear key
        rintro e w15 p
        obtain ⟨px, S1, S2, X⟩ := signed_spec (T := T13) (tr := tr) HT14.out.1 (by have := L13.out; omega) (IX.out.ext (X1.out.trans (X2.out.trans (X3.out.trans (X4.out.trans (X5.out.trans (X6.out.trans (X7.out.trans (X8.out.trans (X9.out.trans (X10.out.trans (X11.out.trans (X12.out.trans X13.out)))))))))))))
        obtain ⟨⟨T14, p0⟩, e1⟩ : ∃ r, signedT T13 tr = r := ⟨_, rfl⟩
        obtain ⟨rfl, ht, hf⟩ := p.intro e1
        rw [e1] at S1 S2 X
        simp only at S1 S2 X
        have HT15 := Lib.hid ht
        have HB15 := Lib.hid (HB14.out.trans (hf.below HB14.out.size))
        have L14 : Hid (T14.length ≤ 96) := by show _ ≤ _; have := X.len; have := L13.out; omega
        have X14 := Lib.hid X
        have GPX : Hid (getT T14 px = some (nT lbServerProof)) := S1
        have GP : Hid (getT T14 p0 = some ⟨3, ByteArray.empty, [px, tr]⟩) := S2
        have Fp0 : Hid (Fit p0) := by have := (In.of GP.out).range; have := L14.out; exact ⟨by omega, by omega⟩
        have Fpx : Hid (Fit px) := by have := (In.of GPX.out).range; have := L14.out; exact ⟨by omega, by omega⟩
        clear p e1 ht hf S1 S2 X HT14 HB14
        have hgf : getT T14 f = some ⟨5, ByteArray.empty, [d, tr]⟩ := ((X13.out.trans X14.out).get GF.out)
        have key := look_any f w15 HT15.out Ff.out.1 Ff.out.2
        go_wp2_with fail
        refine key.mono ?_
        clear key
        rintro e w16 ⟨A1, cp0, rfl, ho, hb⟩
        rw [show nodeT T14 f = ⟨5, ByteArray.empty, [d, tr]⟩ from by unfold nodeT; rw [hgf]; rfl] at ho ⊢
        rw [hgf]
        obtain ⟨g0, cap0, q1, -, hg0, -⟩ := ho.form (by simp)
        simp only [Value.slice.injEq] at q1
        obtain ⟨rfl, -, -⟩ := q1
        have HO : Hid (OwnI w16 0 .i64 (.slice (some ⟨g0, 0, none⟩) 2 cp0) [d, tr]) := ho.mono (Nat.zero_le _)
        have HT16 := Lib.hid (HT15.out.below hb)
        have HB16 := Lib.hid (below_next HB15.out HB15.out.size hb)
        obtain ⟨w17, hW⟩ : ∃ V, V = w16.alloc (.cells #[.int .i64 5, .string ByteArray.empty, .slice (some ⟨g0, 0, none⟩) 2 cp0] 47) := ⟨_, rfl⟩
        have LC0 : Hid (Loc w17 w16.heap.size g0 cp0 d tr) := by rw [hW]; exact ⟨heap_alloc_new w16 _, HO.out.below (below_new _)⟩
        have HBV : Hid (Below w16.heap.size w16 w17) := by rw [hW]; exact below_new _
        have HT17 := Lib.hid (HT16.out.below HBV.out)
        have HB17 := Lib.hid (below_next HB16.out HB16.out.size HBV.out)
        clear ho hb hgf HO HT15 HB15 HT16 HB16 HBV
        have hgf : getT T14 i = some ⟨5, ByteArray.empty, [d2, tr]⟩ := (X14.out.get GI.out)
        have key := look_any i w17 HT17.out Fi.out.1 Fi.out.2
        go_wp2_with fail
        rw [← hW]
        clear hW
        refine key.mono ?_
        clear key
        rintro e w18 ⟨A1, cp1, rfl, ho, hb⟩
        rw [show nodeT T14 i = ⟨5, ByteArray.empty, [d2, tr]⟩ from by unfold nodeT; rw [hgf]; rfl] at ho ⊢
        rw [hgf]
        obtain ⟨g1, cap1, q1, -, hg1, -⟩ := ho.form (by simp)
        simp only [Value.slice.injEq] at q1
        obtain ⟨rfl, -, -⟩ := q1
        have HO : Hid (OwnI w18 0 .i64 (.slice (some ⟨g1, 0, none⟩) 2 cp1) [d2, tr]) := ho.mono (Nat.zero_le _)
        have HT18 := Lib.hid (HT17.out.below hb)
        have HB18 := Lib.hid (below_next HB17.out HB17.out.size hb)
        replace LC0 := Lib.hid (LC0.out.below hb)
        obtain ⟨w19, hW⟩ : ∃ V, V = w18.alloc (.cells #[.int .i64 5, .string ByteArray.empty, .slice (some ⟨g1, 0, none⟩) 2 cp1] 47) := ⟨_, rfl⟩
        have LC1 : Hid (Loc w19 w18.heap.size g1 cp1 d2 tr) := by rw [hW]; exact ⟨heap_alloc_new w18 _, HO.out.below (below_new _)⟩
        have HBV : Hid (Below w18.heap.size w18 w19) := by rw [hW]; exact below_new _
        have HT19 := Lib.hid (HT18.out.below HBV.out)
        have HB19 := Lib.hid (below_next HB18.out HB18.out.size HBV.out)
        have lt0 := LC0.out.lt.1
        have lt1 := LC0.out.lt.2
        have k0 := LC0.out.kind
        have k1 := LC0.out.parts
        have k2 := LC0.out.tail
        have k3 := HO.out.tail2
        have lt2 := (HO.out.lt _ rfl).2
        replace LC0 := Lib.hid (LC0.out.below HBV.out)
        clear ho hb hgf HO HT17 HB17 HT18 HB18 HBV
        have key := derived_0 a gx tr 1 w19 HT19.out (der0_em HT19.out.1 (DA.out.ext (X7.out.trans (X8.out.trans (X9.out.trans (X10.out.trans (X11.out.trans (X12.out.trans (X13.out.trans X14.out)))))))) ((X1.out.trans (X2.out.trans (X3.out.trans (X4.out.trans (X5.out.trans (X6.out.trans (X7.out.trans (X8.out.trans (X9.out.trans (X10.out.trans (X11.out.trans (X12.out.trans (X13.out.trans X14.out))))))))))))).get EM.out)) ((X1.out.trans (X2.out.trans (X3.out.trans (X4.out.trans (X5.out.trans (X6.out.trans (X7.out.trans (X8.out.trans (X9.out.trans (X10.out.trans (X11.out.trans (X12.out.trans (X13.out.trans X14.out))))))))))))).get EM.out) Fgx.out FT.out
        go_wp2_with fail
        rw [← hW]
        clear hW lt0 lt1 lt2 k0 k1 k2 k3
        refine key.mono ?_
        clear key
        rintro e w20 ⟨rfl, ht, hf⟩
        have HT20 := Lib.hid ht
        have HB20 := Lib.hid (HB19.out.trans (hf.below HB19.out.size))
        replace LC0 := Lib.hid (LC0.out.frm hf)
        replace LC1 := Lib.hid (LC1.out.frm hf)
        clear ht hf HT19 HB19
        have key := derived_1 b gx tr 1 w20 HT20.out (der0_em HT20.out.1 (DB.out.ext (X7.out.trans (X8.out.trans (X9.out.trans (X10.out.trans (X11.out.trans (X12.out.trans (X13.out.trans X14.out)))))))) ((X1.out.trans (X2.out.trans (X3.out.trans (X4.out.trans (X5.out.trans (X6.out.trans (X7.out.trans (X8.out.trans (X9.out.trans (X10.out.trans (X11.out.trans (X12.out.trans (X13.out.trans X14.out))))))))))))).get EM.out)) ((X1.out.trans (X2.out.trans (X3.out.trans (X4.out.trans (X5.out.trans (X6.out.trans (X7.out.trans (X8.out.trans (X9.out.trans (X10.out.trans (X11.out.trans (X12.out.trans (X13.out.trans X14.out))))))))))))).get EM.out) Fgx.out FT.out
        go_wp2_with fail
        refine key.mono ?_
        clear key
        rintro e w21 ⟨rfl, ht, hf⟩
        have HT21 := Lib.hid ht
        have HB21 := Lib.hid (HB20.out.trans (hf.below HB20.out.size))
        replace LC0 := Lib.hid (LC0.out.frm hf)
        replace LC1 := Lib.hid (LC1.out.frm hf)
        clear ht hf HT20 HB20
        have key := derived_2 e0 nn tr 1 w21 HT21.out (der0_em HT21.out.1 (DE.out.ext (X8.out.trans (X9.out.trans (X10.out.trans (X11.out.trans (X12.out.trans (X13.out.trans X14.out))))))) ((X1.out.trans (X2.out.trans (X3.out.trans (X4.out.trans (X5.out.trans (X6.out.trans (X7.out.trans (X8.out.trans (X9.out.trans (X10.out.trans (X11.out.trans (X12.out.trans (X13.out.trans X14.out))))))))))))).get EM.out)) ((X1.out.trans (X2.out.trans (X3.out.trans (X4.out.trans (X5.out.trans (X6.out.trans (X7.out.trans (X8.out.trans (X9.out.trans (X10.out.trans (X11.out.trans (X12.out.trans (X13.out.trans X14.out))))))))))))).get EM.out) Fnn.out FT.out
        go_wp2_with fail
        refine key.mono ?_
        clear key
        rintro e w22 ⟨rfl, ht, hf⟩
        have HT22 := Lib.hid ht
        have HB22 := Lib.hid (HB21.out.trans (hf.below HB21.out.size))
        replace LC0 := Lib.hid (LC0.out.frm hf)
        replace LC1 := Lib.hid (LC1.out.frm hf)
        clear ht hf HT21 HB21
        have key := earlyTraffic_any e0 tr w22 HT22.out Fe0.out FT.out
        go_wp2_with fail
        refine key.mono ?_
        clear key
        rintro e w23 p
        obtain ⟨S1, X⟩ := behind_spec (T := T14) (s := e0) (tr := tr) (l := lbClientEarly) HT22.out.1 (by decide) (by have := L14.out; omega) (DE.out.ext (X8.out.trans (X9.out.trans (X10.out.trans (X11.out.trans (X12.out.trans (X13.out.trans X14.out))))))).in_ (IX.out.ext (X1.out.trans (X2.out.trans (X3.out.trans (X4.out.trans (X5.out.trans (X6.out.trans (X7.out.trans (X8.out.trans (X9.out.trans (X10.out.trans (X11.out.trans (X12.out.trans (X13.out.trans X14.out))))))))))))))
        obtain ⟨⟨T15, et⟩, e1⟩ : ∃ r, behindT T14 lbClientEarly e0 tr = r := ⟨_, rfl⟩
        obtain ⟨rfl, ht, hf⟩ := p.intro e1
        rw [e1] at S1 X
        simp only at S1 X
        have HT23 := Lib.hid ht
        have HB23 := Lib.hid (HB22.out.trans (hf.below HB22.out.size))
        have L15 : Hid (T15.length ≤ 99) := by show _ ≤ _; have := X.len; have := L14.out; omega
        have X15 := Lib.hid X
        have DT : Hid (DerAt T15 et e0 lbClientEarly tr) := S1
        have Fet : Hid (Fit et) := by have := DT.out.in_.range; have := L15.out; exact ⟨by omega, by omega⟩
        replace LC0 := Lib.hid (LC0.out.frm hf)
        replace LC1 := Lib.hid (LC1.out.frm hf)
        clear p e1 ht hf S1 X HT22 HB22
        have key := derived_3 et e0 tr 1 w23 HT23.out DT.out ((X1.out.trans (X2.out.trans (X3.out.trans (X4.out.trans (X5.out.trans (X6.out.trans (X7.out.trans (X8.out.trans (X9.out.trans (X10.out.trans (X11.out.trans (X12.out.trans (X13.out.trans (X14.out.trans X15.out)))))))))))))).get EM.out) Fe0.out FT.out
        go_wp2_with fail
        refine key.mono ?_
        clear key
        rintro e w24 ⟨rfl, ht, hf⟩
        have HT24 := Lib.hid ht
        have HB24 := Lib.hid (HB23.out.trans (hf.below HB23.out.size))
        replace LC0 := Lib.hid (LC0.out.frm hf)
        replace LC1 := Lib.hid (LC1.out.frm hf)
        clear ht hf HT23 HB23
        have key := make_fit (g := w24.heap.size) (t := 25) 3 [e0, sh] w24 HT24.out rfl (by simp; exact ⟨Fe0.out, Fsh.out⟩) (by simp) _ rfl (by decide) 2 rfl
        go_wp2_with fail
        refine key.mono ?_
        clear key
        rintro e w25 p
        have S := make_row HT24.out.1 (by have := L15.out; omega) (p := [e0, sh]) (by simp; exact ⟨(DE.out.ext (X8.out.trans (X9.out.trans (X10.out.trans (X11.out.trans (X12.out.trans (X13.out.trans (X14.out.trans X15.out)))))))).in_, (In.of ((X5.out.trans (X6.out.trans (X7.out.trans (X8.out.trans (X9.out.trans (X10.out.trans (X11.out.trans (X12.out.trans (X13.out.trans (X14.out.trans X15.out)))))))))).get SH.out))⟩) (by simp)
        have X := makeT_ext T15 3 [e0, sh]
        obtain ⟨⟨T16, r2⟩, e1⟩ : ∃ r, makeT T15 3 [e0, sh] = r := ⟨_, rfl⟩
        obtain ⟨rfl, ht, hf⟩ := p.intro e1
        rw [e1] at S X
        simp only at S X
        have HT25 := Lib.hid ht
        have HB25 := Lib.hid (HB24.out.trans (hf.below HB24.out.size))
        have L16 : Hid (T16.length ≤ 100) := by show _ ≤ _; have := X.len; have := L15.out; omega
        have X16 := Lib.hid X
        have GR2 : Hid (getT T16 r2 = some ⟨3, ByteArray.empty, [e0, sh]⟩) := S
        replace LC0 := Lib.hid (LC0.out.frm hf)
        replace LC1 := Lib.hid (LC1.out.frm hf)
        clear p e1 ht hf S X HT24 HB24
        have hr2 : r2 = r := getT_uniq HT25.out.1 GR2.out ((X9.out.trans (X10.out.trans (X11.out.trans (X12.out.trans (X13.out.trans (X14.out.trans (X15.out.trans X16.out))))))).get GR.out) (show (3 : Int) ≠ 2 by decide)
        subst hr2
        have key := derived_4 s r2 tr 1 w25 HT25.out (der0_em HT25.out.1 (DS.out.ext (X9.out.trans (X10.out.trans (X11.out.trans (X12.out.trans (X13.out.trans (X14.out.trans (X15.out.trans X16.out)))))))) ((X1.out.trans (X2.out.trans (X3.out.trans (X4.out.trans (X5.out.trans (X6.out.trans (X7.out.trans (X8.out.trans (X9.out.trans (X10.out.trans (X11.out.trans (X12.out.trans (X13.out.trans (X14.out.trans (X15.out.trans X16.out))))))))))))))).get EM.out)) ((X1.out.trans (X2.out.trans (X3.out.trans (X4.out.trans (X5.out.trans (X6.out.trans (X7.out.trans (X8.out.trans (X9.out.trans (X10.out.trans (X11.out.trans (X12.out.trans (X13.out.trans (X14.out.trans (X15.out.trans X16.out))))))))))))))).get EM.out) Fr.out FT.out
        go_wp2_with fail
        refine key.mono ?_
        clear key
        rintro e w26 ⟨rfl, ht, hf⟩
        have HT26 := Lib.hid ht
        have HB26 := Lib.hid (HB25.out.trans (hf.below HB25.out.size))
        replace LC0 := Lib.hid (LC0.out.frm hf)
        replace LC1 := Lib.hid (LC1.out.frm hf)
        clear ht hf HT25 HB25
        have key := derived_5 c1 s tr 1 w26 HT26.out (DC1.out.ext (X10.out.trans (X11.out.trans (X12.out.trans (X13.out.trans (X14.out.trans (X15.out.trans X16.out))))))) ((X1.out.trans (X2.out.trans (X3.out.trans (X4.out.trans (X5.out.trans (X6.out.trans (X7.out.trans (X8.out.trans (X9.out.trans (X10.out.trans (X11.out.trans (X12.out.trans (X13.out.trans (X14.out.trans (X15.out.trans X16.out))))))))))))))).get EM.out) Fs.out FT.out
        go_wp2_with fail
        refine key.mono ?_
        clear key
        rintro e w27 ⟨rfl, ht, hf⟩
        have HT27 := Lib.hid ht
        have HB27 := Lib.hid (HB26.out.trans (hf.below HB26.out.size))
        replace LC0 := Lib.hid (LC0.out.frm hf)
        replace LC1 := Lib.hid (LC1.out.frm hf)
        clear ht hf HT26 HB26
        have key := derived_6 s1 s tr 1 w27 HT27.out (DS1.out.ext (X10.out.trans (X11.out.trans (X12.out.trans (X13.out.trans (X14.out.trans (X15.out.trans X16.out))))))) ((X1.out.trans (X2.out.trans (X3.out.trans (X4.out.trans (X5.out.trans (X6.out.trans (X7.out.trans (X8.out.trans (X9.out.trans (X10.out.trans (X11.out.trans (X12.out.trans (X13.out.trans (X14.out.trans (X15.out.trans X16.out))))))))))))))).get EM.out) Fs.out FT.out
        go_wp2_with fail
        refine key.mono ?_
        clear key
        rintro e w28 ⟨rfl, ht, hf⟩
        have HT28 := Lib.hid ht
        have HB28 := Lib.hid (HB27.out.trans (hf.below HB27.out.size))
        replace LC0 := Lib.hid (LC0.out.frm hf)
        replace LC1 := Lib.hid (LC1.out.frm hf)
        clear ht hf HT27 HB27
        have key := derived_7 m s tr 1 w28 HT28.out (der0_em HT28.out.1 (DM.out.ext (X11.out.trans (X12.out.trans (X13.out.trans (X14.out.trans (X15.out.trans X16.out)))))) ((X1.out.trans (X2.out.trans (X3.out.trans (X4.out.trans (X5.out.trans (X6.out.trans (X7.out.trans (X8.out.trans (X9.out.trans (X10.out.trans (X11.out.trans (X12.out.trans (X13.out.trans (X14.out.trans (X15.out.trans X16.out))))))))))))))).get EM.out)) ((X1.out.trans (X2.out.trans (X3.out.trans (X4.out.trans (X5.out.trans (X6.out.trans (X7.out.trans (X8.out.trans (X9.out.trans (X10.out.trans (X11.out.trans (X12.out.trans (X13.out.trans (X14.out.trans (X15.out.trans X16.out))))))))))))))).get EM.out) Fs.out FT.out
        go_wp2_with fail
        refine key.mono ?_
        clear key
        rintro e w29 ⟨rfl, ht, hf⟩
        have HT29 := Lib.hid ht
        have HB29 := Lib.hid (HB28.out.trans (hf.below HB28.out.size))
        replace LC0 := Lib.hid (LC0.out.frm hf)
        replace LC1 := Lib.hid (LC1.out.frm hf)
        clear ht hf HT28 HB28
        have key := derived_8 c2 m tr 1 w29 HT29.out (DC2.out.ext (X12.out.trans (X13.out.trans (X14.out.trans (X15.out.trans X16.out))))) ((X1.out.trans (X2.out.trans (X3.out.trans (X4.out.trans (X5.out.trans (X6.out.trans (X7.out.trans (X8.out.trans (X9.out.trans (X10.out.trans (X11.out.trans (X12.out.trans (X13.out.trans (X14.out.trans (X15.out.trans X16.out))))))))))))))).get EM.out) Fm.out FT.out
        go_wp2_with fail
        refine key.mono ?_
        clear key
        rintro e w30 ⟨rfl, ht, hf⟩
        have HT30 := Lib.hid ht
        have HB30 := Lib.hid (HB29.out.trans (hf.below HB29.out.size))
        replace LC0 := Lib.hid (LC0.out.frm hf)
        replace LC1 := Lib.hid (LC1.out.frm hf)
        clear ht hf HT29 HB29
        have key := derived_9 s2 m tr 1 w30 HT30.out (DS2.out.ext (X12.out.trans (X13.out.trans (X14.out.trans (X15.out.trans X16.out))))) ((X1.out.trans (X2.out.trans (X3.out.trans (X4.out.trans (X5.out.trans (X6.out.trans (X7.out.trans (X8.out.trans (X9.out.trans (X10.out.trans (X11.out.trans (X12.out.trans (X13.out.trans (X14.out.trans (X15.out.trans X16.out))))))))))))))).get EM.out) Fm.out FT.out
        go_wp2_with fail
        refine key.mono ?_
        clear key
        rintro e w31 ⟨rfl, ht, hf⟩
        have HT31 := Lib.hid ht
        have HB31 := Lib.hid (HB30.out.trans (hf.below HB30.out.size))
        replace LC0 := Lib.hid (LC0.out.frm hf)
        replace LC1 := Lib.hid (LC1.out.frm hf)
        clear ht hf HT30 HB30
        have key := resume_any m tr w31 HT31.out Fm.out FT.out
        go_wp2_with fail
        refine key.mono ?_
        clear key
        rintro e w32 p
        obtain ⟨S1, X⟩ := behind_spec (T := T16) (s := m) (tr := tr) (l := lbResume) HT31.out.1 (by decide) (by have := L16.out; omega) (DM.out.ext (X11.out.trans (X12.out.trans (X13.out.trans (X14.out.trans (X15.out.trans X16.out)))))).in_ (IX.out.ext (X1.out.trans (X2.out.trans (X3.out.trans (X4.out.trans (X5.out.trans (X6.out.trans (X7.out.trans (X8.out.trans (X9.out.trans (X10.out.trans (X11.out.trans (X12.out.trans (X13.out.trans (X14.out.trans (X15.out.trans X16.out))))))))))))))))
        obtain ⟨⟨T17, re⟩, e1⟩ : ∃ r, behindT T16 lbResume m tr = r := ⟨_, rfl⟩
        obtain ⟨rfl, ht, hf⟩ := p.intro e1
        rw [e1] at S1 X
        simp only at S1 X
        have HT32 := Lib.hid ht
        have HB32 := Lib.hid (HB31.out.trans (hf.below HB31.out.size))
        have L17 : Hid (T17.length ≤ 103) := by show _ ≤ _; have := X.len; have := L16.out; omega
        have X17 := Lib.hid X
        have DR : Hid (DerAt T17 re m lbResume tr) := S1
        have Fre : Hid (Fit re) := by have := DR.out.in_.range; have := L17.out; exact ⟨by omega, by omega⟩
        replace LC0 := Lib.hid (LC0.out.frm hf)
        replace LC1 := Lib.hid (LC1.out.frm hf)
        clear p e1 ht hf S1 X HT31 HB31
        have key := derived_10 re m tr 1 w32 HT32.out DR.out ((X1.out.trans (X2.out.trans (X3.out.trans (X4.out.trans (X5.out.trans (X6.out.trans (X7.out.trans (X8.out.trans (X9.out.trans (X10.out.trans (X11.out.trans (X12.out.trans (X13.out.trans (X14.out.trans (X15.out.trans (X16.out.trans X17.out)))))))))))))))).get EM.out) Fm.out FT.out
        go_wp2_with fail
        refine key.mono ?_
        clear key
        rintro e w33 ⟨rfl, ht, hf⟩
        have HT33 := Lib.hid ht
        have HB33 := Lib.hid (HB32.out.trans (hf.below HB32.out.size))
        replace LC0 := Lib.hid (LC0.out.frm hf)
        replace LC1 := Lib.hid (LC1.out.frm hf)
        clear ht hf HT32 HB32
        have k1 := LC0.out.parts
        have k2 := LC0.out.head
        have key := derived_11 d c1 tr 1 w33 HT33.out (der0_em HT33.out.1 (DF.out.ext (X13.out.trans (X14.out.trans (X15.out.trans (X16.out.trans X17.out))))) ((X1.out.trans (X2.out.trans (X3.out.trans (X4.out.trans (X5.out.trans (X6.out.trans (X7.out.trans (X8.out.trans (X9.out.trans (X10.out.trans (X11.out.trans (X12.out.trans (X13.out.trans (X14.out.trans (X15.out.trans (X16.out.trans X17.out)))))))))))))))).get EM.out)) ((X1.out.trans (X2.out.trans (X3.out.trans (X4.out.trans (X5.out.trans (X6.out.trans (X7.out.trans (X8.out.trans (X9.out.trans (X10.out.trans (X11.out.trans (X12.out.trans (X13.out.trans (X14.out.trans (X15.out.trans (X16.out.trans X17.out)))))))))))))))).get EM.out) Fc1.out FT.out
        go_wp2_with fail
        refine key.mono ?_
        clear key
        rintro e w34 ⟨rfl, ht, hf⟩
        have HT34 := Lib.hid ht
        have HB34 := Lib.hid (HB33.out.trans (hf.below HB33.out.size))
        replace LC0 := Lib.hid (LC0.out.frm hf)
        replace LC1 := Lib.hid (LC1.out.frm hf)
        clear ht hf HT33 HB33 k1 k2
        have k1 := LC1.out.parts
        have k2 := LC1.out.head
        have key := derived_12 d2 e0 tr 1 w34 HT34.out (der0_em HT34.out.1 (DI.out.ext (X14.out.trans (X15.out.trans (X16.out.trans X17.out)))) ((X1.out.trans (X2.out.trans (X3.out.trans (X4.out.trans (X5.out.trans (X6.out.trans (X7.out.trans (X8.out.trans (X9.out.trans (X10.out.trans (X11.out.trans (X12.out.trans (X13.out.trans (X14.out.trans (X15.out.trans (X16.out.trans X17.out)))))))))))))))).get EM.out)) ((X1.out.trans (X2.out.trans (X3.out.trans (X4.out.trans (X5.out.trans (X6.out.trans (X7.out.trans (X8.out.trans (X9.out.trans (X10.out.trans (X11.out.trans (X12.out.trans (X13.out.trans (X14.out.trans (X15.out.trans (X16.out.trans X17.out)))))))))))))))).get EM.out) Fe0.out FT.out
        go_wp2_with fail
        refine key.mono ?_
        clear key
        rintro e w35 ⟨rfl, ht, hf⟩
        have HT35 := Lib.hid ht
        have HB35 := Lib.hid (HB34.out.trans (hf.below HB34.out.size))
        replace LC0 := Lib.hid (LC0.out.frm hf)
        replace LC1 := Lib.hid (LC1.out.frm hf)
        clear ht hf HT34 HB34 k1 k2
        have hconv := Lib.hid (run_const_bytes w35 #[.int .u8 115, .int .u8 101, .int .u8 114, .int .u8 118, .int .u8 101, .int .u8 114, .int .u8 32, .int .u8 112, .int .u8 114, .int .u8 111, .int .u8 111, .int .u8 102] 12 12)
        obtain ⟨V, hW⟩ : ∃ V, V = w35.alloc (.cells #[.int .u8 115, .int .u8 101, .int .u8 114, .int .u8 118, .int .u8 101, .int .u8 114, .int .u8 32, .int .u8 112, .int .u8 114, .int .u8 111, .int .u8 111, .int .u8 102] 5 (12, 13)) := ⟨_, rfl⟩
        have hr : Rds 0 V .u8 (some ⟨w35.heap.size, 0, none⟩) 12 12 proofL := by
          rw [hW]
          exact rds_marked (xs := proofL) (t := 5) (12, 13) rfl (by decide) _ rfl 12 rfl (by decide)
        have HBV : Hid (Below w35.heap.size w35 V) := by rw [hW]; exact below_new _
        have HTW := Lib.hid (HT35.out.below HBV.out)
        have HBW := Lib.hid (below_next HB35.out HB35.out.size HBV.out)
        have key := text_any (some ⟨w35.heap.size, 0, none⟩) 12 12 proofL V HTW.out hr
        rw [proof_str] at key
        have hc2 : (convert 27 27 (.slice (some ⟨w35.heap.size, 0, none⟩) 12 12)).run Try.prog (w35.alloc (.cells #[.int .u8 115, .int .u8 101, .int .u8 114, .int .u8 118, .int .u8 101, .int .u8 114, .int .u8 32, .int .u8 112, .int .u8 114, .int .u8 111, .int .u8 111, .int .u8 102] 5)) = .ok (.slice (some ⟨w35.heap.size, 0, none⟩) 12 12) V := by rw [hW]; exact hconv.out
        go_wp2_with fail
        rw [← hW]
        clear hW hr hc2
        refine key.mono ?_
        clear key
        rintro e w36 p
        obtain ⟨rfl, ht, hf⟩ := p.intro (text_have HT35.out.1 ((X15.out.trans (X16.out.trans X17.out)).get GPX.out) (by decide))
        have HT36 := Lib.hid ht
        have HB36 := Lib.hid (HBW.out.trans (hf.below HBW.out.size))
        clear p ht hf
        have key := is_lit (g := w36.heap.size) (t := 25) p0 3 [px, tr] w36 HT36.out rfl Fp0.out (by simp) _ rfl (by decide) 2 rfl
        rw [isT_at ((X15.out.trans (X16.out.trans X17.out)).get GP.out), decide_eq_true ⟨rfl, rfl⟩] at key
        go_wp2_with fail
        refine key.mono ?_
        clear key
        rintro e wy ⟨rfl, hby⟩
        have HBy := Lib.hid (below_next HB36.out HB36.out.size hby)
        clear hby
        go_wp2_with fail
        refine (awake15_any _).mono ?_
        rintro e wz ⟨rfl, hbz⟩
        have HBz := Lib.hid (below_next HBy.out HBy.out.size hbz)
        clear hbz
        go_wp2_with fail
        go_ret
        exact ⟨rfl, HBz.out⟩
      case true =>
        have key := secret_any w5 HT5.out
        go_wp2_with fail
        refine key.mono ?_
        clear key
        rintro e w6 p
        have S := secret_get (T := T5) (by have := L5.out; omega)
        have X := secretT_ext T5
        obtain ⟨⟨T6, h⟩, e1⟩ : ∃ r, secretT T5 = r := ⟨_, rfl⟩
        obtain ⟨rfl, ht, hf⟩ := p.intro e1
        rw [e1] at S X
        simp only at S X
        have HT6 := Lib.hid ht
        have HB6 := Lib.hid (HB5.out.trans (hf.below HB5.out.size))
        have L6 : Hid (T6.length ≤ 57) := by show _ ≤ _; have := X.len; have := L5.out; omega
        have X6 := Lib.hid X
        have SS : Hid (getT T6 h = some ⟨2, ByteArray.empty, []⟩) := S
        have Fh : Hid (Fit h) := by have := (In.of SS.out).range; have := L6.out; exact ⟨by omega, by omega⟩
        clear p e1 ht hf S X HT5 HB5
        have HNZ : Hid (h ≠ 0) := by have := (In.of SS.out).range; show _ ≠ _; omega
        have key := first_any A0 n0 c0 gs w6 HT6.out (HG.out.below HB6.out) (by have := L6.out; omega)
        go_wp2_with fail
        refine key.mono ?_
        clear key
        rintro e w7 p
        obtain ⟨gx, S1, S2, S3, X⟩ := first_spec (T := T6) (g := strOfNums gs) HT6.out.1 (by rw [strOfNums_size]; have := HGL.out; omega) (by have := L6.out; omega)
        obtain ⟨⟨T7, a, b⟩, e1⟩ : ∃ r, firstT T6 (strOfNums gs) = r := ⟨_, rfl⟩
        obtain ⟨rfl, ht, hf⟩ := p.intro e1
        rw [e1] at S1 S2 S3 X
        simp only at S1 S2 S3 X
        have HT7 := Lib.hid ht
        have HB7 := Lib.hid (HB6.out.trans (hf.below HB6.out.size))
        have L7 : Hid (T7.length ≤ 64) := by show _ ≤ _; have := X.len; have := L6.out; omega
        have X7 := Lib.hid X
        have SG : Hid (getT T7 gx = some (nT (strOfNums gs))) := S1
        have DA : Hid (Der0 T7 a gx lbClientIn) := S2
        have DB : Hid (Der0 T7 b gx lbServerIn) := S3
        have Fa : Hid (Fit a) := by have := DA.out.in_.range; have := L7.out; exact ⟨by omega, by omega⟩
        have Fb : Hid (Fit b) := by have := DB.out.in_.range; have := L7.out; exact ⟨by omega, by omega⟩
        have Fgx : Hid (Fit gx) := by have := (In.of SG.out).range; have := L7.out; exact ⟨by omega, by omega⟩
        clear p e1 ht hf S1 S2 S3 X HT6 HB6
        have key := text_any A0 n0 c0 gs w7 HT7.out (HG.out.below HB7.out)
        go_wp2_with fail
        refine key.mono ?_
        clear key
        rintro e w8 p
        obtain ⟨rfl, ht, hf⟩ := p.intro (text_have HT7.out.1 SG.out (by rw [strOfNums_size]; have := HGL.out; omega))
        have HT8 := Lib.hid ht
        have HB8 := Lib.hid (HB7.out.trans (hf.below HB7.out.size))
        clear p ht hf HT7 HB7
        have key := early_any h w8 HT8.out Fh.out
        go_wp2_with fail
        refine key.mono ?_
        clear key
        rintro e w9 p
        obtain ⟨own, S1, S2, S3, X⟩ := early_spec (T := T7) (h := h) HT8.out.1 (by have := L7.out; omega) (.inr (In.of (X7.out.get SS.out)))
        obtain ⟨⟨T8, e0⟩, e1⟩ : ∃ r, earlyT T7 h = r := ⟨_, rfl⟩
        obtain ⟨rfl, ht, hf⟩ := p.intro e1
        rw [e1] at S2 S3 X
        simp only at S2 S3 X
        have HT9 := Lib.hid ht
        have HB9 := Lib.hid (HB8.out.trans (hf.below HB8.out.size))
        have hown : own = h := S1 HNZ.out
        rw [hown] at S3
        have DE : Hid (Der0 T8 e0 h lbEarly) := S3
        have L8 : Hid (T8.length ≤ 68) := by show _ ≤ _; have := X.len; have := L7.out; omega
        have X8 := Lib.hid X
        clear p e1 ht hf S2 S3 X HT8 HB8
        have Fe0 : Hid (Fit e0) := by have := DE.out.in_.range; have := L8.out; exact ⟨by omega, by omega⟩
        clear S1 hown own
        have key := shaken_any e0 sh w9 HT9.out Fe0.out Fsh.out
        go_wp2_with fail
        refine key.mono ?_
        clear key
        rintro e w10 p
        obtain ⟨r, S1, S2, X⟩ := shaken_spec (T := T8) (e := e0) (s := sh) HT9.out.1 (by have := L8.out; omega) DE.out.in_ (In.of ((X5.out.trans (X6.out.trans (X7.out.trans X8.out))).get SH.out))
        obtain ⟨⟨T9, s⟩, e1⟩ : ∃ r, shakenT T8 e0 sh = r := ⟨_, rfl⟩
        obtain ⟨rfl, ht, hf⟩ := p.intro e1
        rw [e1] at S1 S2 X
        simp only at S1 S2 X
        have HT10 := Lib.hid ht
        have HB10 := Lib.hid (HB9.out.trans (hf.below HB9.out.size))
        have L9 : Hid (T9.length ≤ 72) := by show _ ≤ _; have := X.len; have := L8.out; omega
        have X9 := Lib.hid X
        have GR : Hid (getT T9 r = some ⟨3, ByteArray.empty, [e0, sh]⟩) := S1
        have DS : Hid (Der0 T9 s r lbHandshake) := S2
        have Fs : Hid (Fit s) := by have := DS.out.in_.range; have := L9.out; exact ⟨by omega, by omega⟩
        have Fr : Hid (Fit r) := by have := (In.of GR.out).range; have := L9.out; exact ⟨by omega, by omega⟩
        clear p e1 ht hf S1 S2 X HT9 HB9
        have key := shakenTraffic_any s tr w10 HT10.out Fs.out FT.out
        go_wp2_with fail
        refine key.mono ?_
        clear key
        rintro e w11 p
        obtain ⟨S1, S2, X⟩ := pair_spec (T := T9) (s := s) (tr := tr) (l1 := lbClientHs) (l2 := lbServerHs) HT10.out.1 (by decide) (by decide) (by have := L9.out; omega) DS.out.in_ (IX.out.ext (X1.out.trans (X2.out.trans (X3.out.trans (X4.out.trans (X5.out.trans (X6.out.trans (X7.out.trans (X8.out.trans X9.out)))))))))
        obtain ⟨⟨T10, c1, s1⟩, e1⟩ : ∃ r, pairT T9 lbClientHs lbServerHs s tr = r := ⟨_, rfl⟩
        obtain ⟨rfl, ht, hf⟩ := p.intro e1
        rw [e1] at S1 S2 X
        simp only at S1 S2 X
        have HT11 := Lib.hid ht
        have HB11 := Lib.hid (HB10.out.trans (hf.below HB10.out.size))
        have L10 : Hid (T10.length ≤ 78) := by show _ ≤ _; have := X.len; have := L9.out; omega
        have X10 := Lib.hid X
        have DC1 : Hid (DerAt T10 c1 s lbClientHs tr) := S1
        have DS1 : Hid (DerAt T10 s1 s lbServerHs tr) := S2
        have Fc1 : Hid (Fit c1) := by have := DC1.out.in_.range; have := L10.out; exact ⟨by omega, by omega⟩
        have Fs1 : Hid (Fit s1) := by have := DS1.out.in_.range; have := L10.out; exact ⟨by omega, by omega⟩
        clear p e1 ht hf S1 S2 X HT10 HB10
        have key := main_any s w11 HT11.out Fs.out
        go_wp2_with fail
        refine key.mono ?_
        clear key
        rintro e w12 p
        obtain ⟨S1, X⟩ := der_zero (T := T10) (s := s) (l := lbMain) HT11.out.1 (by decide) (by have := L10.out; omega) (DS.out.ext X10.out).in_
        obtain ⟨⟨T11, m⟩, e1⟩ : ∃ r, deriveT T10 s lbMain 0 = r := ⟨_, rfl⟩
        obtain ⟨rfl, ht, hf⟩ := p.intro e1
        rw [e1] at S1 X
        simp only at S1 X
        have HT12 := Lib.hid ht
        have HB12 := Lib.hid (HB11.out.trans (hf.below HB11.out.size))
        have L11 : Hid (T11.length ≤ 81) := by show _ ≤ _; have := X.len; have := L10.out; omega
        have X11 := Lib.hid X
        have DM : Hid (Der0 T11 m s lbMain) := S1
        have Fm : Hid (Fit m) := by have := DM.out.in_.range; have := L11.out; exact ⟨by omega, by omega⟩
        clear p e1 ht hf S1 X HT11 HB11
        have key := mainTraffic_any m tr w12 HT12.out Fm.out FT.out
        go_wp2_with fail
        refine key.mono ?_
        clear key
        rintro e w13 p
        obtain ⟨S1, S2, X⟩ := pair_spec (T := T11) (s := m) (tr := tr) (l1 := lbClientApp) (l2 := lbServerApp) HT12.out.1 (by decide) (by decide) (by have := L11.out; omega) DM.out.in_ (IX.out.ext (X1.out.trans (X2.out.trans (X3.out.trans (X4.out.trans (X5.out.trans (X6.out.trans (X7.out.trans (X8.out.trans (X9.out.trans (X10.out.trans X11.out)))))))))))
        obtain ⟨⟨T12, c2, s2⟩, e1⟩ : ∃ r, pairT T11 lbClientApp lbServerApp m tr = r := ⟨_, rfl⟩
        obtain ⟨rfl, ht, hf⟩ := p.intro e1
        rw [e1] at S1 S2 X
        simp only at S1 S2 X
        have HT13 := Lib.hid ht
        have HB13 := Lib.hid (HB12.out.trans (hf.below HB12.out.size))
        have L12 : Hid (T12.length ≤ 87) := by show _ ≤ _; have := X.len; have := L11.out; omega
        have X12 := Lib.hid X
        have DC2 : Hid (DerAt T12 c2 m lbClientApp tr) := S1
        have DS2 : Hid (DerAt T12 s2 m lbServerApp tr) := S2
        have Fc2 : Hid (Fit c2) := by have := DC2.out.in_.range; have := L12.out; exact ⟨by omega, by omega⟩
        have Fs2 : Hid (Fit s2) := by have := DS2.out.in_.range; have := L12.out; exact ⟨by omega, by omega⟩
        clear p e1 ht hf S1 S2 X HT12 HB12
        have key := finished_any c1 tr w13 HT13.out Fc1.out FT.out (by have := L12.out; omega)
        go_wp2_with fail
        refine key.mono ?_
        clear key
        rintro e w14 p
        obtain ⟨d, S1, S2, X⟩ := mac_spec (T := T12) (k := c1) (tr := tr) (l := lbFinished) HT13.out.1 (by decide) (by have := L12.out; omega) (DC1.out.ext (X11.out.trans X12.out)).in_ (IX.out.ext (X1.out.trans (X2.out.trans (X3.out.trans (X4.out.trans (X5.out.trans (X6.out.trans (X7.out.trans (X8.out.trans (X9.out.trans (X10.out.trans (X11.out.trans X12.out))))))))))))
        obtain ⟨⟨T13, f⟩, e1⟩ : ∃ r, macT T12 lbFinished c1 tr = r := ⟨_, rfl⟩
        obtain ⟨rfl, ht, hf⟩ := p.intro e1
        rw [e1] at S1 S2 X
        simp only at S1 S2 X
        have HT14 := Lib.hid ht
        have HB14 := Lib.hid (HB13.out.trans (hf.below HB13.out.size))
        have L13 : Hid (T13.length ≤ 91) := by show _ ≤ _; have := X.len; have := L12.out; omega
        have X13 := Lib.hid X
        have DF : Hid (Der0 T13 d c1 lbFinished) := S1
        have GF : Hid (getT T13 f = some ⟨5, ByteArray.empty, [d, tr]⟩) := S2
        have Ff : Hid (Fit f) := by have := (In.of GF.out).range; have := L13.out; exact ⟨by omega, by omega⟩
        clear p e1 ht hf S1 S2 X HT13 HB13
        have key := binder_any e0 tr w14 HT14.out Fe0.out FT.out (by have := L13.out; omega)
        go_wp2_with fail
        refine key.mono ?_
        clear key
        rintro e w15 p
        obtain ⟨d2, S1, S2, X⟩ := mac_spec (T := T13) (k := e0) (tr := tr) (l := lbBinder) HT14.out.1 (by decide) (by have := L13.out; omega) (DE.out.ext (X9.out.trans (X10.out.trans (X11.out.trans (X12.out.trans X13.out))))).in_ (IX.out.ext (X1.out.trans (X2.out.trans (X3.out.trans (X4.out.trans (X5.out.trans (X6.out.trans (X7.out.trans (X8.out.trans (X9.out.trans (X10.out.trans (X11.out.trans (X12.out.trans X13.out)))))))))))))
        obtain ⟨⟨T14, i⟩, e1⟩ : ∃ r, macT T13 lbBinder e0 tr = r := ⟨_, rfl⟩
        obtain ⟨rfl, ht, hf⟩ := p.intro e1
        rw [e1] at S1 S2 X
        simp only at S1 S2 X
        have HT15 := Lib.hid ht
        have HB15 := Lib.hid (HB14.out.trans (hf.below HB14.out.size))
        have L14 : Hid (T14.length ≤ 95) := by show _ ≤ _; have := X.len; have := L13.out; omega
        have X14 := Lib.hid X
        have DI : Hid (Der0 T14 d2 e0 lbBinder) := S1
        have GI : Hid (getT T14 i = some ⟨5, ByteArray.empty, [d2, tr]⟩) := S2
        have Fi : Hid (Fit i) := by have := (In.of GI.out).range; have := L14.out; exact ⟨by omega, by omega⟩
        clear p e1 ht hf S1 S2 X HT14 HB14
        have key := signed_any tr w15 HT15.out FT.out
        go_wp2_with fail
        refine key.mono ?_
        clear key
        rintro e w16 p
        obtain ⟨px, S1, S2, X⟩ := signed_spec (T := T14) (tr := tr) HT15.out.1 (by have := L14.out; omega) (IX.out.ext (X1.out.trans (X2.out.trans (X3.out.trans (X4.out.trans (X5.out.trans (X6.out.trans (X7.out.trans (X8.out.trans (X9.out.trans (X10.out.trans (X11.out.trans (X12.out.trans (X13.out.trans X14.out))))))))))))))
        obtain ⟨⟨T15, p0⟩, e1⟩ : ∃ r, signedT T14 tr = r := ⟨_, rfl⟩
        obtain ⟨rfl, ht, hf⟩ := p.intro e1
        rw [e1] at S1 S2 X
        simp only at S1 S2 X
        have HT16 := Lib.hid ht
        have HB16 := Lib.hid (HB15.out.trans (hf.below HB15.out.size))
        have L15 : Hid (T15.length ≤ 97) := by show _ ≤ _; have := X.len; have := L14.out; omega
        have X15 := Lib.hid X
        have GPX : Hid (getT T15 px = some (nT lbServerProof)) := S1
        have GP : Hid (getT T15 p0 = some ⟨3, ByteArray.empty, [px, tr]⟩) := S2
        have Fp0 : Hid (Fit p0) := by have := (In.of GP.out).range; have := L15.out; exact ⟨by omega, by omega⟩
        have Fpx : Hid (Fit px) := by have := (In.of GPX.out).range; have := L15.out; exact ⟨by omega, by omega⟩
        clear p e1 ht hf S1 S2 X HT15 HB15
        have hgf : getT T15 f = some ⟨5, ByteArray.empty, [d, tr]⟩ := ((X14.out.trans X15.out).get GF.out)
        have key := look_any f w16 HT16.out Ff.out.1 Ff.out.2
        go_wp2_with fail
        refine key.mono ?_
        clear key
        rintro e w17 ⟨A1, cp0, rfl, ho, hb⟩
        rw [show nodeT T15 f = ⟨5, ByteArray.empty, [d, tr]⟩ from by unfold nodeT; rw [hgf]; rfl] at ho ⊢
        rw [hgf]
        obtain ⟨g0, cap0, q1, -, hg0, -⟩ := ho.form (by simp)
        simp only [Value.slice.injEq] at q1
        obtain ⟨rfl, -, -⟩ := q1
        have HO : Hid (OwnI w17 0 .i64 (.slice (some ⟨g0, 0, none⟩) 2 cp0) [d, tr]) := ho.mono (Nat.zero_le _)
        have HT17 := Lib.hid (HT16.out.below hb)
        have HB17 := Lib.hid (below_next HB16.out HB16.out.size hb)
        obtain ⟨w18, hW⟩ : ∃ V, V = w17.alloc (.cells #[.int .i64 5, .string ByteArray.empty, .slice (some ⟨g0, 0, none⟩) 2 cp0] 47) := ⟨_, rfl⟩
        have LC0 : Hid (Loc w18 w17.heap.size g0 cp0 d tr) := by rw [hW]; exact ⟨heap_alloc_new w17 _, HO.out.below (below_new _)⟩
        have HBV : Hid (Below w17.heap.size w17 w18) := by rw [hW]; exact below_new _
        have HT18 := Lib.hid (HT17.out.below HBV.out)
        have HB18 := Lib.hid (below_next HB17.out HB17.out.size HBV.out)
        clear ho hb hgf HO HT16 HB16 HT17 HB17 HBV
        have hgf : getT T15 i = some ⟨5, ByteArray.empty, [d2, tr]⟩ := (X15.out.get GI.out)
        have key := look_any i w18 HT18.out Fi.out.1 Fi.out.2
        go_wp2_with fail
        rw [← hW]
        clear hW
        refine key.mono ?_
        clear key
        rintro e w19 ⟨A1, cp1, rfl, ho, hb⟩
        rw [show nodeT T15 i = ⟨5, ByteArray.empty, [d2, tr]⟩ from by unfold nodeT; rw [hgf]; rfl] at ho ⊢
        rw [hgf]
        obtain ⟨g1, cap1, q1, -, hg1, -⟩ := ho.form (by simp)
        simp only [Value.slice.injEq] at q1
        obtain ⟨rfl, -, -⟩ := q1
        have HO : Hid (OwnI w19 0 .i64 (.slice (some ⟨g1, 0, none⟩) 2 cp1) [d2, tr]) := ho.mono (Nat.zero_le _)
        have HT19 := Lib.hid (HT18.out.below hb)
        have HB19 := Lib.hid (below_next HB18.out HB18.out.size hb)
        replace LC0 := Lib.hid (LC0.out.below hb)
        obtain ⟨w20, hW⟩ : ∃ V, V = w19.alloc (.cells #[.int .i64 5, .string ByteArray.empty, .slice (some ⟨g1, 0, none⟩) 2 cp1] 47) := ⟨_, rfl⟩
        have LC1 : Hid (Loc w20 w19.heap.size g1 cp1 d2 tr) := by rw [hW]; exact ⟨heap_alloc_new w19 _, HO.out.below (below_new _)⟩
        have HBV : Hid (Below w19.heap.size w19 w20) := by rw [hW]; exact below_new _
        have HT20 := Lib.hid (HT19.out.below HBV.out)
        have HB20 := Lib.hid (below_next HB19.out HB19.out.size HBV.out)
        have lt0 := LC0.out.lt.1
        have lt1 := LC0.out.lt.2
        have k0 := LC0.out.kind
        have k1 := LC0.out.parts
        have k2 := LC0.out.tail
        have k3 := HO.out.tail2
        have lt2 := (HO.out.lt _ rfl).2
        replace LC0 := Lib.hid (LC0.out.below HBV.out)
        clear ho hb hgf HO HT18 HB18 HT19 HB19 HBV
        have key := derived_0 a gx tr 1 w20 HT20.out (der0_em HT20.out.1 (DA.out.ext (X8.out.trans (X9.out.trans (X10.out.trans (X11.out.trans (X12.out.trans (X13.out.trans (X14.out.trans X15.out)))))))) ((X1.out.trans (X2.out.trans (X3.out.trans (X4.out.trans (X5.out.trans (X6.out.trans (X7.out.trans (X8.out.trans (X9.out.trans (X10.out.trans (X11.out.trans (X12.out.trans (X13.out.trans (X14.out.trans X15.out)))))))))))))).get EM.out)) ((X1.out.trans (X2.out.trans (X3.out.trans (X4.out.trans (X5.out.trans (X6.out.trans (X7.out.trans (X8.out.trans (X9.out.trans (X10.out.trans (X11.out.trans (X12.out.trans (X13.out.trans (X14.out.trans X15.out)))))))))))))).get EM.out) Fgx.out FT.out
        go_wp2_with fail
        rw [← hW]
        clear hW lt0 lt1 lt2 k0 k1 k2 k3
        refine key.mono ?_
        clear key
        rintro e w21 ⟨rfl, ht, hf⟩
        have HT21 := Lib.hid ht
        have HB21 := Lib.hid (HB20.out.trans (hf.below HB20.out.size))
        replace LC0 := Lib.hid (LC0.out.frm hf)
        replace LC1 := Lib.hid (LC1.out.frm hf)
        clear ht hf HT20 HB20
        have key := derived_1 b gx tr 1 w21 HT21.out (der0_em HT21.out.1 (DB.out.ext (X8.out.trans (X9.out.trans (X10.out.trans (X11.out.trans (X12.out.trans (X13.out.trans (X14.out.trans X15.out)))))))) ((X1.out.trans (X2.out.trans (X3.out.trans (X4.out.trans (X5.out.trans (X6.out.trans (X7.out.trans (X8.out.trans (X9.out.trans (X10.out.trans (X11.out.trans (X12.out.trans (X13.out.trans (X14.out.trans X15.out)))))))))))))).get EM.out)) ((X1.out.trans (X2.out.trans (X3.out.trans (X4.out.trans (X5.out.trans (X6.out.trans (X7.out.trans (X8.out.trans (X9.out.trans (X10.out.trans (X11.out.trans (X12.out.trans (X13.out.trans (X14.out.trans X15.out)))))))))))))).get EM.out) Fgx.out FT.out
        go_wp2_with fail
        refine key.mono ?_
        clear key
        rintro e w22 ⟨rfl, ht, hf⟩
        have HT22 := Lib.hid ht
        have HB22 := Lib.hid (HB21.out.trans (hf.below HB21.out.size))
        replace LC0 := Lib.hid (LC0.out.frm hf)
        replace LC1 := Lib.hid (LC1.out.frm hf)
        clear ht hf HT21 HB21
        have key := derived_2 e0 h tr 1 w22 HT22.out (der0_em HT22.out.1 (DE.out.ext (X9.out.trans (X10.out.trans (X11.out.trans (X12.out.trans (X13.out.trans (X14.out.trans X15.out))))))) ((X1.out.trans (X2.out.trans (X3.out.trans (X4.out.trans (X5.out.trans (X6.out.trans (X7.out.trans (X8.out.trans (X9.out.trans (X10.out.trans (X11.out.trans (X12.out.trans (X13.out.trans (X14.out.trans X15.out)))))))))))))).get EM.out)) ((X1.out.trans (X2.out.trans (X3.out.trans (X4.out.trans (X5.out.trans (X6.out.trans (X7.out.trans (X8.out.trans (X9.out.trans (X10.out.trans (X11.out.trans (X12.out.trans (X13.out.trans (X14.out.trans X15.out)))))))))))))).get EM.out) Fh.out FT.out
        go_wp2_with fail
        refine key.mono ?_
        clear key
        rintro e w23 ⟨rfl, ht, hf⟩
        have HT23 := Lib.hid ht
        have HB23 := Lib.hid (HB22.out.trans (hf.below HB22.out.size))
        replace LC0 := Lib.hid (LC0.out.frm hf)
        replace LC1 := Lib.hid (LC1.out.frm hf)
        clear ht hf HT22 HB22
        have key := earlyTraffic_any e0 tr w23 HT23.out Fe0.out FT.out
        go_wp2_with fail
        refine key.mono ?_
        clear key
        rintro e w24 p
        obtain ⟨S1, X⟩ := behind_spec (T := T15) (s := e0) (tr := tr) (l := lbClientEarly) HT23.out.1 (by decide) (by have := L15.out; omega) (DE.out.ext (X9.out.trans (X10.out.trans (X11.out.trans (X12.out.trans (X13.out.trans (X14.out.trans X15.out))))))).in_ (IX.out.ext (X1.out.trans (X2.out.trans (X3.out.trans (X4.out.trans (X5.out.trans (X6.out.trans (X7.out.trans (X8.out.trans (X9.out.trans (X10.out.trans (X11.out.trans (X12.out.trans (X13.out.trans (X14.out.trans X15.out)))))))))))))))
        obtain ⟨⟨T16, et⟩, e1⟩ : ∃ r, behindT T15 lbClientEarly e0 tr = r := ⟨_, rfl⟩
        obtain ⟨rfl, ht, hf⟩ := p.intro e1
        rw [e1] at S1 X
        simp only at S1 X
        have HT24 := Lib.hid ht
        have HB24 := Lib.hid (HB23.out.trans (hf.below HB23.out.size))
        have L16 : Hid (T16.length ≤ 100) := by show _ ≤ _; have := X.len; have := L15.out; omega
        have X16 := Lib.hid X
        have DT : Hid (DerAt T16 et e0 lbClientEarly tr) := S1
        have Fet : Hid (Fit et) := by have := DT.out.in_.range; have := L16.out; exact ⟨by omega, by omega⟩
        replace LC0 := Lib.hid (LC0.out.frm hf)
        replace LC1 := Lib.hid (LC1.out.frm hf)
        clear p e1 ht hf S1 X HT23 HB23
        have key := derived_3 et e0 tr 1 w24 HT24.out DT.out ((X1.out.trans (X2.out.trans (X3.out.trans (X4.out.trans (X5.out.trans (X6.out.trans (X7.out.trans (X8.out.trans (X9.out.trans (X10.out.trans (X11.out.trans (X12.out.trans (X13.out.trans (X14.out.trans (X15.out.trans X16.out))))))))))))))).get EM.out) Fe0.out FT.out
        go_wp2_with fail
        refine key.mono ?_
        clear key
        rintro e w25 ⟨rfl, ht, hf⟩
        have HT25 := Lib.hid ht
        have HB25 := Lib.hid (HB24.out.trans (hf.below HB24.out.size))
        replace LC0 := Lib.hid (LC0.out.frm hf)
        replace LC1 := Lib.hid (LC1.out.frm hf)
        clear ht hf HT24 HB24
        have key := make_fit (g := w25.heap.size) (t := 25) 3 [e0, sh] w25 HT25.out rfl (by simp; exact ⟨Fe0.out, Fsh.out⟩) (by simp) _ rfl (by decide) 2 rfl
        go_wp2_with fail
        refine key.mono ?_
        clear key
        rintro e w26 p
        have S := make_row HT25.out.1 (by have := L16.out; omega) (p := [e0, sh]) (by simp; exact ⟨(DE.out.ext (X9.out.trans (X10.out.trans (X11.out.trans (X12.out.trans (X13.out.trans (X14.out.trans (X15.out.trans X16.out)))))))).in_, (In.of ((X5.out.trans (X6.out.trans (X7.out.trans (X8.out.trans (X9.out.trans (X10.out.trans (X11.out.trans (X12.out.trans (X13.out.trans (X14.out.trans (X15.out.trans X16.out))))))))))).get SH.out))⟩) (by simp)
        have X := makeT_ext T16 3 [e0, sh]
        obtain ⟨⟨T17, r2⟩, e1⟩ : ∃ r, makeT T16 3 [e0, sh] = r := ⟨_, rfl⟩
        obtain ⟨rfl, ht, hf⟩ := p.intro e1
        rw [e1] at S X
        simp only at S X
        have HT26 := Lib.hid ht
        have HB26 := Lib.hid (HB25.out.trans (hf.below HB25.out.size))
        have L17 : Hid (T17.length ≤ 101) := by show _ ≤ _; have := X.len; have := L16.out; omega
        have X17 := Lib.hid X
        have GR2 : Hid (getT T17 r2 = some ⟨3, ByteArray.empty, [e0, sh]⟩) := S
        replace LC0 := Lib.hid (LC0.out.frm hf)
        replace LC1 := Lib.hid (LC1.out.frm hf)
        clear p e1 ht hf S X HT25 HB25
        have hr2 : r2 = r := getT_uniq HT26.out.1 GR2.out ((X10.out.trans (X11.out.trans (X12.out.trans (X13.out.trans (X14.out.trans (X15.out.trans (X16.out.trans X17.out))))))).get GR.out) (show (3 : Int) ≠ 2 by decide)
        subst hr2
        have key := derived_4 s r2 tr 1 w26 HT26.out (der0_em HT26.out.1 (DS.out.ext (X10.out.trans (X11.out.trans (X12.out.trans (X13.out.trans (X14.out.trans (X15.out.trans (X16.out.trans X17.out)))))))) ((X1.out.trans (X2.out.trans (X3.out.trans (X4.out.trans (X5.out.trans (X6.out.trans (X7.out.trans (X8.out.trans (X9.out.trans (X10.out.trans (X11.out.trans (X12.out.trans (X13.out.trans (X14.out.trans (X15.out.trans (X16.out.trans X17.out)))))))))))))))).get EM.out)) ((X1.out.trans (X2.out.trans (X3.out.trans (X4.out.trans (X5.out.trans (X6.out.trans (X7.out.trans (X8.out.trans (X9.out.trans (X10.out.trans (X11.out.trans (X12.out.trans (X13.out.trans (X14.out.trans (X15.out.trans (X16.out.trans X17.out)))))))))))))))).get EM.out) Fr.out FT.out
        go_wp2_with fail
        refine key.mono ?_
        clear key
        rintro e w27 ⟨rfl, ht, hf⟩
        have HT27 := Lib.hid ht
        have HB27 := Lib.hid (HB26.out.trans (hf.below HB26.out.size))
        replace LC0 := Lib.hid (LC0.out.frm hf)
        replace LC1 := Lib.hid (LC1.out.frm hf)
        clear ht hf HT26 HB26
        have key := derived_5 c1 s tr 1 w27 HT27.out (DC1.out.ext (X11.out.trans (X12.out.trans (X13.out.trans (X14.out.trans (X15.out.trans (X16.out.trans X17.out))))))) ((X1.out.trans (X2.out.trans (X3.out.trans (X4.out.trans (X5.out.trans (X6.out.trans (X7.out.trans (X8.out.trans (X9.out.trans (X10.out.trans (X11.out.trans (X12.out.trans (X13.out.trans (X14.out.trans (X15.out.trans (X16.out.trans X17.out)))))))))))))))).get EM.out) Fs.out FT.out
        go_wp2_with fail
        refine key.mono ?_
        clear key
        rintro e w28 ⟨rfl, ht, hf⟩
        have HT28 := Lib.hid ht
        have HB28 := Lib.hid (HB27.out.trans (hf.below HB27.out.size))
        replace LC0 := Lib.hid (LC0.out.frm hf)
        replace LC1 := Lib.hid (LC1.out.frm hf)
        clear ht hf HT27 HB27
        have key := derived_6 s1 s tr 1 w28 HT28.out (DS1.out.ext (X11.out.trans (X12.out.trans (X13.out.trans (X14.out.trans (X15.out.trans (X16.out.trans X17.out))))))) ((X1.out.trans (X2.out.trans (X3.out.trans (X4.out.trans (X5.out.trans (X6.out.trans (X7.out.trans (X8.out.trans (X9.out.trans (X10.out.trans (X11.out.trans (X12.out.trans (X13.out.trans (X14.out.trans (X15.out.trans (X16.out.trans X17.out)))))))))))))))).get EM.out) Fs.out FT.out
        go_wp2_with fail
        refine key.mono ?_
        clear key
        rintro e w29 ⟨rfl, ht, hf⟩
        have HT29 := Lib.hid ht
        have HB29 := Lib.hid (HB28.out.trans (hf.below HB28.out.size))
        replace LC0 := Lib.hid (LC0.out.frm hf)
        replace LC1 := Lib.hid (LC1.out.frm hf)
        clear ht hf HT28 HB28
        have key := derived_7 m s tr 1 w29 HT29.out (der0_em HT29.out.1 (DM.out.ext (X12.out.trans (X13.out.trans (X14.out.trans (X15.out.trans (X16.out.trans X17.out)))))) ((X1.out.trans (X2.out.trans (X3.out.trans (X4.out.trans (X5.out.trans (X6.out.trans (X7.out.trans (X8.out.trans (X9.out.trans (X10.out.trans (X11.out.trans (X12.out.trans (X13.out.trans (X14.out.trans (X15.out.trans (X16.out.trans X17.out)))))))))))))))).get EM.out)) ((X1.out.trans (X2.out.trans (X3.out.trans (X4.out.trans (X5.out.trans (X6.out.trans (X7.out.trans (X8.out.trans (X9.out.trans (X10.out.trans (X11.out.trans (X12.out.trans (X13.out.trans (X14.out.trans (X15.out.trans (X16.out.trans X17.out)))))))))))))))).get EM.out) Fs.out FT.out
        go_wp2_with fail
        refine key.mono ?_
        clear key
        rintro e w30 ⟨rfl, ht, hf⟩
        have HT30 := Lib.hid ht
        have HB30 := Lib.hid (HB29.out.trans (hf.below HB29.out.size))
        replace LC0 := Lib.hid (LC0.out.frm hf)
        replace LC1 := Lib.hid (LC1.out.frm hf)
        clear ht hf HT29 HB29
        have key := derived_8 c2 m tr 1 w30 HT30.out (DC2.out.ext (X13.out.trans (X14.out.trans (X15.out.trans (X16.out.trans X17.out))))) ((X1.out.trans (X2.out.trans (X3.out.trans (X4.out.trans (X5.out.trans (X6.out.trans (X7.out.trans (X8.out.trans (X9.out.trans (X10.out.trans (X11.out.trans (X12.out.trans (X13.out.trans (X14.out.trans (X15.out.trans (X16.out.trans X17.out)))))))))))))))).get EM.out) Fm.out FT.out
        go_wp2_with fail
        refine key.mono ?_
        clear key
        rintro e w31 ⟨rfl, ht, hf⟩
        have HT31 := Lib.hid ht
        have HB31 := Lib.hid (HB30.out.trans (hf.below HB30.out.size))
        replace LC0 := Lib.hid (LC0.out.frm hf)
        replace LC1 := Lib.hid (LC1.out.frm hf)
        clear ht hf HT30 HB30
        have key := derived_9 s2 m tr 1 w31 HT31.out (DS2.out.ext (X13.out.trans (X14.out.trans (X15.out.trans (X16.out.trans X17.out))))) ((X1.out.trans (X2.out.trans (X3.out.trans (X4.out.trans (X5.out.trans (X6.out.trans (X7.out.trans (X8.out.trans (X9.out.trans (X10.out.trans (X11.out.trans (X12.out.trans (X13.out.trans (X14.out.trans (X15.out.trans (X16.out.trans X17.out)))))))))))))))).get EM.out) Fm.out FT.out
        go_wp2_with fail
        refine key.mono ?_
        clear key
        rintro e w32 ⟨rfl, ht, hf⟩
        have HT32 := Lib.hid ht
        have HB32 := Lib.hid (HB31.out.trans (hf.below HB31.out.size))
        replace LC0 := Lib.hid (LC0.out.frm hf)
        replace LC1 := Lib.hid (LC1.out.frm hf)
        clear ht hf HT31 HB31
        have key := resume_any m tr w32 HT32.out Fm.out FT.out
        go_wp2_with fail
        refine key.mono ?_
        clear key
        rintro e w33 p
        obtain ⟨S1, X⟩ := behind_spec (T := T17) (s := m) (tr := tr) (l := lbResume) HT32.out.1 (by decide) (by have := L17.out; omega) (DM.out.ext (X12.out.trans (X13.out.trans (X14.out.trans (X15.out.trans (X16.out.trans X17.out)))))).in_ (IX.out.ext (X1.out.trans (X2.out.trans (X3.out.trans (X4.out.trans (X5.out.trans (X6.out.trans (X7.out.trans (X8.out.trans (X9.out.trans (X10.out.trans (X11.out.trans (X12.out.trans (X13.out.trans (X14.out.trans (X15.out.trans (X16.out.trans X17.out)))))))))))))))))
        obtain ⟨⟨T18, re⟩, e1⟩ : ∃ r, behindT T17 lbResume m tr = r := ⟨_, rfl⟩
        obtain ⟨rfl, ht, hf⟩ := p.intro e1
        rw [e1] at S1 X
        simp only at S1 X
        have HT33 := Lib.hid ht
        have HB33 := Lib.hid (HB32.out.trans (hf.below HB32.out.size))
        have L18 : Hid (T18.length ≤ 104) := by show _ ≤ _; have := X.len; have := L17.out; omega
        have X18 := Lib.hid X
        have DR : Hid (DerAt T18 re m lbResume tr) := S1
        have Fre : Hid (Fit re) := by have := DR.out.in_.range; have := L18.out; exact ⟨by omega, by omega⟩
        replace LC0 := Lib.hid (LC0.out.frm hf)
        replace LC1 := Lib.hid (LC1.out.frm hf)
        clear p e1 ht hf S1 X HT32 HB32
        have key := derived_10 re m tr 1 w33 HT33.out DR.out ((X1.out.trans (X2.out.trans (X3.out.trans (X4.out.trans (X5.out.trans (X6.out.trans (X7.out.trans (X8.out.trans (X9.out.trans (X10.out.trans (X11.out.trans (X12.out.trans (X13.out.trans (X14.out.trans (X15.out.trans (X16.out.trans (X17.out.trans X18.out))))))))))))))))).get EM.out) Fm.out FT.out
        go_wp2_with fail
        refine key.mono ?_
        clear key
        rintro e w34 ⟨rfl, ht, hf⟩
        have HT34 := Lib.hid ht
        have HB34 := Lib.hid (HB33.out.trans (hf.below HB33.out.size))
        replace LC0 := Lib.hid (LC0.out.frm hf)
        replace LC1 := Lib.hid (LC1.out.frm hf)
        clear ht hf HT33 HB33
        have k1 := LC0.out.parts
        have k2 := LC0.out.head
        have key := derived_11 d c1 tr 1 w34 HT34.out (der0_em HT34.out.1 (DF.out.ext (X14.out.trans (X15.out.trans (X16.out.trans (X17.out.trans X18.out))))) ((X1.out.trans (X2.out.trans (X3.out.trans (X4.out.trans (X5.out.trans (X6.out.trans (X7.out.trans (X8.out.trans (X9.out.trans (X10.out.trans (X11.out.trans (X12.out.trans (X13.out.trans (X14.out.trans (X15.out.trans (X16.out.trans (X17.out.trans X18.out))))))))))))))))).get EM.out)) ((X1.out.trans (X2.out.trans (X3.out.trans (X4.out.trans (X5.out.trans (X6.out.trans (X7.out.trans (X8.out.trans (X9.out.trans (X10.out.trans (X11.out.trans (X12.out.trans (X13.out.trans (X14.out.trans (X15.out.trans (X16.out.trans (X17.out.trans X18.out))))))))))))))))).get EM.out) Fc1.out FT.out
        go_wp2_with fail
        refine key.mono ?_
        clear key
        rintro e w35 ⟨rfl, ht, hf⟩
        have HT35 := Lib.hid ht
        have HB35 := Lib.hid (HB34.out.trans (hf.below HB34.out.size))
        replace LC0 := Lib.hid (LC0.out.frm hf)
        replace LC1 := Lib.hid (LC1.out.frm hf)
        clear ht hf HT34 HB34 k1 k2
        have k1 := LC1.out.parts
        have k2 := LC1.out.head
        have key := derived_12 d2 e0 tr 1 w35 HT35.out (der0_em HT35.out.1 (DI.out.ext (X15.out.trans (X16.out.trans (X17.out.trans X18.out)))) ((X1.out.trans (X2.out.trans (X3.out.trans (X4.out.trans (X5.out.trans (X6.out.trans (X7.out.trans (X8.out.trans (X9.out.trans (X10.out.trans (X11.out.trans (X12.out.trans (X13.out.trans (X14.out.trans (X15.out.trans (X16.out.trans (X17.out.trans X18.out))))))))))))))))).get EM.out)) ((X1.out.trans (X2.out.trans (X3.out.trans (X4.out.trans (X5.out.trans (X6.out.trans (X7.out.trans (X8.out.trans (X9.out.trans (X10.out.trans (X11.out.trans (X12.out.trans (X13.out.trans (X14.out.trans (X15.out.trans (X16.out.trans (X17.out.trans X18.out))))))))))))))))).get EM.out) Fe0.out FT.out
        go_wp2_with fail
        refine key.mono ?_
        clear key
        rintro e w36 ⟨rfl, ht, hf⟩
        have HT36 := Lib.hid ht
        have HB36 := Lib.hid (HB35.out.trans (hf.below HB35.out.size))
        replace LC0 := Lib.hid (LC0.out.frm hf)
        replace LC1 := Lib.hid (LC1.out.frm hf)
        clear ht hf HT35 HB35 k1 k2
        have hconv := Lib.hid (run_const_bytes w36 #[.int .u8 115, .int .u8 101, .int .u8 114, .int .u8 118, .int .u8 101, .int .u8 114, .int .u8 32, .int .u8 112, .int .u8 114, .int .u8 111, .int .u8 111, .int .u8 102] 12 12)
        obtain ⟨V, hW⟩ : ∃ V, V = w36.alloc (.cells #[.int .u8 115, .int .u8 101, .int .u8 114, .int .u8 118, .int .u8 101, .int .u8 114, .int .u8 32, .int .u8 112, .int .u8 114, .int .u8 111, .int .u8 111, .int .u8 102] 5 (12, 13)) := ⟨_, rfl⟩
        have hr : Rds 0 V .u8 (some ⟨w36.heap.size, 0, none⟩) 12 12 proofL := by
          rw [hW]
          exact rds_marked (xs := proofL) (t := 5) (12, 13) rfl (by decide) _ rfl 12 rfl (by decide)
        have HBV : Hid (Below w36.heap.size w36 V) := by rw [hW]; exact below_new _
        have HTW := Lib.hid (HT36.out.below HBV.out)
        have HBW := Lib.hid (below_next HB36.out HB36.out.size HBV.out)
        have key := text_any (some ⟨w36.heap.size, 0, none⟩) 12 12 proofL V HTW.out hr
        rw [proof_str] at key
        have hc2 : (convert 27 27 (.slice (some ⟨w36.heap.size, 0, none⟩) 12 12)).run Try.prog (w36.alloc (.cells #[.int .u8 115, .int .u8 101, .int .u8 114, .int .u8 118, .int .u8 101, .int .u8 114, .int .u8 32, .int .u8 112, .int .u8 114, .int .u8 111, .int .u8 111, .int .u8 102] 5)) = .ok (.slice (some ⟨w36.heap.size, 0, none⟩) 12 12) V := by rw [hW]; exact hconv.out
        go_wp2_with fail
        rw [← hW]
        clear hW hr hc2
        refine key.mono ?_
        clear key
        rintro e w37 p
        obtain ⟨rfl, ht, hf⟩ := p.intro (text_have HT36.out.1 ((X16.out.trans (X17.out.trans X18.out)).get GPX.out) (by decide))
        have HT37 := Lib.hid ht
        have HB37 := Lib.hid (HBW.out.trans (hf.below HBW.out.size))
        clear p ht hf
        have key := is_lit (g := w37.heap.size) (t := 25) p0 3 [px, tr] w37 HT37.out rfl Fp0.out (by simp) _ rfl (by decide) 2 rfl
        rw [isT_at ((X16.out.trans (X17.out.trans X18.out)).get GP.out), decide_eq_true ⟨rfl, rfl⟩] at key
        go_wp2_with fail
        refine key.mono ?_
        clear key
        rintro e wy ⟨rfl, hby⟩
        have HBy := Lib.hid (below_next HB37.out HB37.out.size hby)
        clear hby
        go_wp2_with fail
        refine (awake15_any _).mono ?_
        rintro e wz ⟨rfl, hbz⟩
        have HBz := Lib.hid (below_next HBy.out HBy.out.size hbz)
        clear hbz
        go_wp2_with fail
        go_ret
        exact ⟨rfl, HBz.out⟩
theorem rows_row {A0 A1 : Option Addr} {n0 c0 n1 c1 : Nat} (w : World) (h0 : ∃ xs, Rds w.heap.size w .u8 A0 n0 c0 xs ∧ Byt xs) (h1 : ∃ L, RdRows w.heap.size w A1 n1 L ∧ ∀ xs ∈ L, Byt xs) (ticket : Bool) :
    Calls Try.prog 7 #[.slice A0 n0 c0, .slice A1 n1 c1, .bool ticket] w fun e w' => e = .returned (.bool true) ∧ Below w.heap.size w w' := by
  obtain ⟨gs, h0, -⟩ := h0
  obtain ⟨L, h1, -⟩ := h1
  exact schedrows_walk w A0 n0 c0 gs h0 A1 n1 c1 L h1 ticket
end Go.Proofs.Ytbcicfgffjgpdaa
