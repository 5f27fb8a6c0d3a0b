/- know.look (layer 3). No condition. -/
import Derived.Test.YtomopjpfdmpgpaaKnow7
import Derived.Laws.EntriesVeiled
set_option linter.unusedVariables false
set_option linter.unusedSimpArgs false
namespace Go.Proofs.Ytomopjpfdmpgpaa
open Go Go.RowKit
attribute [local go_sem] Oper.semAt_some

/-- A region is left by its end alone. -/
def onlyEnd (R : Act → World → Prop) : Exit → Act → World → Prop
  | .normal, a, w => R a w
  | _, _, _ => False
abbrev LG := List Bool × List Bool × Bool × List Nat
structure LookG (B : Nat) (w : World) (mb : Nat) (tp : Option Addr) (v1 v2 u1 u2 : Value) (T : List Nd) (S : Int → Prop) (D : Nat) (x : LG) (W : World) : Prop where
  i : LookI B w mb tp v1 v2 u1 u2 T D x.1 x.2.1 x.2.2.1 W
  nd : x.2.2.2.Nodup
  rs : ∀ r ∈ x.2.2.2, D + 2 ≤ r ∧ W.heap[r]? = some (.deferred (some []))
  len : LenK T ⟨x.1, x.2.1, false⟩
  sd : SoundK T S ⟨x.1, x.2.1, false⟩
  bs : ∀ h n, getT T h = some n → S h → bget x.1 h = true
  dn : x.2.2.1 = false → DoneK T S x.1 x.2.1
def KLookPost (B : Nat) (w : World) (mb : Nat) (tp : Option Addr) (v1 v2 : Value) (T : List Nd) (S : Int → Prop) (e : Ending) (w' : World) : Prop :=
  e = .returned (.tuple #[]) ∧ ∃ u1 u2 F' C', DoneK T S F' C' ∧ MStep B w mb tp v1 v2 u1 u2 F' C' T.length true w'
theorem bget_lt {l : List Bool} {h : Int} (hb : bget l h = true) : h.toNat < l.length := by
  unfold bget at hb
  rw [List.getD_eq_getElem?_getD] at hb
  by_cases q : h.toNat < l.length
  · exact q
  · rw [List.getElem?_eq_none (by omega)] at hb; cases hb
theorem growL_full {l : List Bool} {n : Nat} (h : l.length = n + 1) : growL l n = l := by unfold growL; rw [h]; simp

set_option maxHeartbeats 25600000 in
set_option maxRecDepth 100000 in
theorem klook_any {B mb : Nat} {tp : Option Addr} {v1 v2 : Value} {F C : List Bool} {size : Nat} {fresh : Bool} {T : List Nd} (S : Int → Prop) (w : World) (hm : MindAt B w mb tp v1 v2 F C size fresh) (ht : TabAt B w tp T) (hl : F.length = C.length) (hF : F.length ≤ T.length + 1)
    (hs : SoundK T S ⟨F, C, false⟩) (hb : ∀ h n, getT T h = some n → S h → bget F h = true) (hfr : fresh = true → T.length = size → DoneK T S F C) :
    Calls Try.prog 70 #[.pointer (some ⟨mb, 0, none⟩)] w (KLookPost B w mb tp v1 v2 T S) := by
  have hT := ht.wf.len
  have HW := Lib.hid ht.wf
  have HBW : Hid (B ≤ w.heap.size) := Nat.le_trans hm.base (Nat.le_of_lt hm.lt)
  have HMS : Hid (∀ k, mS mb v1 v2 k → k < w.heap.size) := fun k hk => (hm.sub k hk).2
  obtain ⟨W0, hW0⟩ : ∃ W0, W0 = w.alloc (.cells #[.pointer (some ⟨mb, 0, none⟩)] 93) := ⟨_, rfl⟩
  have hb0 : Below w.heap.size w W0 := by rw [hW0]; exact below_new _
  have hs0 : W0.heap.size = w.heap.size + 1 := by rw [hW0]; simp
  have HB0 := Lib.hid hb0
  have HS0 := Lib.hid hs0
  have HX0 : Hid (W0.heap[w.heap.size]? = some (.cells #[.pointer (some ⟨mb, 0, none⟩)] 93 (0, 0))) := by rw [hW0]; exact heap_alloc_new w _
  have key0 := mgrow_any W0 (hm.below hb0) (ht.below hb0) hl hF
  have HT0 := Lib.hid (ht.below hb0)
  have HM0 := Lib.hid (hm.below hb0)
  have HFR := Lib.hid hfr
  have HGF : Hid ((growL F T.length).length = T.length + 1) := growL_len hF
  have HGC : Hid ((growL C T.length).length = T.length + 1) := growL_len (by omega)
  have HS := Lib.hid hs
  have HB := Lib.hid hb
  have key : Calls Try.prog 69 #[.pointer (some ⟨mb, 0, none⟩)] W0 fun e W1 => e = .returned (.tuple #[]) ∧ ∃ u1 u2 fr, W1.cell? ⟨w.heap.size, 0, none⟩ = some (.pointer (some ⟨mb, 0, none⟩)) ∧ W1.cell? ⟨mb, 4, none⟩ = some (.bool fr) ∧ W1.frozen? ⟨mb, 4, none⟩ = false ∧ w.heap.size < W1.heap.size ∧ mb < W1.heap.size ∧ mb ≠ w.heap.size ∧
      Hid (fr = (fresh && decide (T.length = size))) ∧ Hid (W1.heap[w.heap.size]? = some (.cells #[.pointer (some ⟨mb, 0, none⟩)] 93 (0, 0))) ∧ Hid (MStep B w mb tp v1 v2 u1 u2 (growL F T.length) (growL C T.length) T.length fr W1) ∧ Hid (TabAt B W1 tp T) ∧ Hid (∀ k, mS mb u1 u2 k → k ≠ w.heap.size ∧ k < W1.heap.size) := by
    refine key0.mono ?_
    rintro e W1 ⟨rfl, u1, u2, hstep⟩
    have hx1 : W1.heap[w.heap.size]? = some (.cells #[.pointer (some ⟨mb, 0, none⟩)] 93 (0, 0)) := (hstep.fr.block _ (by rw [HS0.out]; omega) fun q => by have := HMS.out _ q; omega).trans HX0.out
    have hs1 : W0.heap.size ≤ W1.heap.size := hstep.fr.size
    have hlt : w.heap.size < W1.heap.size := by have := HS0.out; omega
    refine ⟨rfl, u1, u2, _, by rw [cell_of_row W1 _ 0 _ _ _ hx1]; rfl, hstep.at_.cells.2.2.2.2, hstep.at_.free 4, hlt, hstep.at_.lt, by have := HMS.out mb (.inl rfl); omega, rfl, hx1, (⟨HM0.out, .of_below HB0.out, fun _ e => .inl e, fun _ e => .inl e⟩ : MStep B w mb tp v1 v2 v1 v2 F C size fresh W0).next hstep, HT0.out.mnd (HM0.out.mfrm hstep.fr), ?_⟩
    intro k hk
    refine ⟨fun e => ?_, (hstep.at_.sub k hk).2⟩
    subst e
    have hms := HMS.out
    have := HS0.out
    rcases hk with e | e | e
    · have := hms mb (.inl rfl); omega
    · rcases hstep.o1 _ e with q | q
      · have := hms _ (.inr (.inl q)); omega
      · omega
    · rcases hstep.o2 _ e with q | q
      · have := hms _ (.inr (.inr q)); omega
      · omega
  clear key0
  rw [hW0] at key
  clear hm ht hb0 hs0 hs hb hfr hF hl hW0
  refine (callsIn_wide (n := 2)).1 ?_
  refine callsIn_of_wp_marks Try.func70 rfl trivial ?_ rfl
  simp only [Try.ntmps70, List.size_toArray, List.length_cons, List.length_nil, Nat.reduceAdd, Nat.reduceSub, Array.replicate_succ, Array.replicate_zero, List.push_toArray, List.append_toArray, List.nil_append, List.cons_append]
  gi_wp2_with (refine ⟨trivial, ?_⟩; gi_at_call 69; refine (callsIn_wide.2 key).mono ?_; clear key; rintro e W1 ⟨rfl, u1, u2, fr, x0, m4, mf, hlt, hmlt, hne, HFRE, HX1, HST, HT1, HNE⟩; cases fr)
  rotate_left
  · have hd : fresh = true ∧ T.length = size := by have := HFRE.out; simpa using this.symm
    have hD := HFR.out hd.1 hd.2
    have h1 : growL F T.length = F := growL_full hD.len.F
    have h2 : growL C T.length = C := growL_full hD.len.C
    have h3 := HST.out
    rw [h1, h2] at h3
    exact ⟨.tuple #[], results_none rfl _ _ _, rfl, u1, u2, F, C, hD, h3⟩
  -- the world where the loop begins
  obtain ⟨W3, hW3⟩ : ∃ W3, W3 = ((W1.setCell ⟨mb, 4, none⟩ (.bool true)).alloc (.cells #[.bool true] 4)).alloc (.cells #[.func (.func 86) #[] #[.pointer (some ⟨W1.heap.size, 0, none⟩)]] 136) := ⟨_, rfl⟩
  rw [← hW3]
  have HI3 : Hid (LookI B w mb tp v1 v2 u1 u2 T W1.heap.size (growL F T.length) (growL C T.length) true W3) := by
    obtain ⟨W2, hW2⟩ : ∃ W2, W2 = W1.setCell ⟨mb, 4, none⟩ (.bool true) := ⟨_, rfl⟩
    have hs2 : W2.heap.size = W1.heap.size := by rw [hW2]; simp [World.setCell]
    have hm2 := HST.out.fresh true
    have ht2 : TabAt B W2 tp T := HT1.out.mnd (by rw [hW2]; exact HST.out.at_.mfrm (.set _ _ _ (.inl rfl)))
    have hx2 : W2.heap[w.heap.size]? = some (.cells #[.pointer (some ⟨mb, 0, none⟩)] 93 (0, 0)) := by rw [hW2]; exact (mblk_other W1 _ (by omega)).trans HX1.out
    rw [← hW2] at hm2 hW3
    have hb23 : Below W2.heap.size W2 W3 := by rw [hW3]; exact (below_new _).alloc (by simp) _
    rw [← hs2]
    refine ⟨hm2.below hb23, ht2.below hb23, (hb23.block _ (by omega)).trans hx2, ?_, ?_, by rw [hs2]; exact HNE.out, by omega, by rw [hW3]; simp, HBW.out⟩
    · unfold BoolAt; rw [hW3]; exact (Below.heap_alloc _ _ _ (by simp)).trans (heap_alloc_new W2 _)
    · have := heap_alloc_new (W2.alloc (.cells #[.bool true] 4)) (.cells #[.func (.func 86) #[] #[.pointer (some ⟨W2.heap.size, 0, none⟩)]] 136)
      rw [World.size_alloc] at this
      rw [hW3, hs2] at *
      exact this
  generalize hD : W1.heap.size = D at HI3 HNE ⊢
  clear hW3 hD HNE HT1 HST HX1 HFRE m4 mf x0 HM0 HT0 HX0 HS0 HB0 HMS HFR hlt hmlt hne
  refine wpIn_loopG (α := LG) (fun x a W => ∃ s4 s5 s6 s7 s8 s9 s10 s11 s12 s13 s14 s15 s16 s17 s18 s19 s20 s21 s22 s23 s24 s25 s26 s27 s28 s29 s30 s31 s32 s33 s34 s35 s36 s37 s38 s39 s40 s41 s42 s43 s44 s45 s46 s47 s48 s49 s50 s51 s52 s53 s54 s55 s56 s57 s58 s59 s60 s61, a = ⟨#[.pointer (some ⟨mb, 0, none⟩), .pointer (some ⟨w.heap.size, 0, none⟩), .pointer (some ⟨D, 0, none⟩), .pointer (some ⟨D + 1, 0, none⟩), s4, s5, s6, s7, s8, s9, s10, s11, s12, s13, s14, s15, s16, s17, s18, s19, s20, s21, s22, s23, s24, s25, s26, s27, s28, s29, s30, s31, s32, s33, s34, s35, s36, s37, s38, s39, s40, s41, s42, s43, s44, s45, s46, s47, s48, s49, s50, s51, s52, s53, s54, s55, s56, s57, s58, s59, s60, s61], x.2.2.2.map fun r => { target := .collected r, args := #[] }⟩ ∧ LookG B w mb tp v1 v2 u1 u2 T S D x W)
    (fun x => 2 * (2 * (T.length + 1) - (cntB x.1 + cntB x.2.1)) + x.2.2.1.toNat) (growL F T.length, growL C T.length, true, []) ?start ?round
  case start =>
    refine ⟨_, _, _, _, _, _, _, _, _, _, _, _, _, _, _, _, _, _, _, _, _, _, _, _, _, _, _, _, _, _, _, _, _, _, _, _, _, _, _, _, _, _, _, _, _, _, _, _, _, _, _, _, _, _, _, _, _, _, rfl, HI3.out, List.nodup_nil, fun r hr => (by cases hr), ⟨HGF.out, HGC.out⟩, ⟨fun h h1 hb => HS.out.1 h h1 (by rw [← bget_growL F T.length]; exact hb), fun h h1 hb => HS.out.2 h h1 (by rw [← bget_growL C T.length]; exact hb)⟩, fun h n hg hS => by show bget (growL F T.length) h = true; rw [bget_growL]; exact HB.out h n hg hS, fun h => by cases h⟩
  case round =>
  clear HI3 HGF HGC HS HB
  rintro ⟨F', C', ch, rs⟩ a W ⟨s4, s5, s6, s7, s8, s9, s10, s11, s12, s13, s14, s15, s16, s17, s18, s19, s20, s21, s22, s23, s24, s25, s26, s27, s28, s29, s30, s31, s32, s33, s34, s35, s36, s37, s38, s39, s40, s41, s42, s43, s44, s45, s46, s47, s48, s49, s50, s51, s52, s53, s54, s55, s56, s57, s58, s59, s60, s61, rfl, hG⟩
  have hI : LookI B w mb tp v1 v2 u1 u2 T D F' C' ch W := hG.i
  have HG := Lib.hid hG
  have HI := Lib.hid hI
  have c1 : W.cell? ⟨D, 0, none⟩ = some (.bool ch) := by rw [cell_of_row W _ 0 _ _ _ hI.c]; rfl
  have cf : W.frozen? ⟨D, 0, none⟩ = false := by have := hI.c; unfold BoolAt at this; simp [World.frozen?, this]
  have x0 : W.cell? ⟨w.heap.size, 0, none⟩ = some (.pointer (some ⟨mb, 0, none⟩)) := by rw [cell_of_row W _ 0 _ _ _ hI.x]; rfl
  have hlt := hI.wD
  have hne1 : ¬ w.heap.size = D := by omega
  have hne2 : ¬ D = w.heap.size := by omega
  clear hG
  cases ch with
  | false =>
    clear hI
    gi_wp2
    refine leaves_marks (D + 2) (fun W => LookI B w mb tp v1 v2 u1 u2 T D F' C' false W) (fun W r h hr h0 => h.lp hr (frm_putLoop _ h0 rfl (Nat.le_refl _))) (fun W h => ?_) rs W HG.out.nd HG.out.rs HI.out
    exact ⟨.tuple #[], results_none rfl _ _ _, rfl, u1, u2, F', C', HG.out.dn rfl, h.m⟩
  | true =>
  -- the pass: what the calls need
  have hT1 := HG.out.len.F
  have HC1 : Hid (LookI B w mb tp v1 v2 u1 u2 T D F' C' false (W.setCell ⟨D, 0, none⟩ (.bool false))) := hI.setCh false
  have hsz : (W.setCell ⟨D, 0, none⟩ (.bool false)).heap.size = W.heap.size := by simp [World.setCell]
  have hDW := hI.sz
  have HRB : Hid (∀ r ∈ rs, (W.setCell ⟨D, 0, none⟩ (.bool false)).heap[r]? = some (.deferred (some [])) ∧ r < W.heap.size ∧ D + 2 ≤ r) := fun r hr => ⟨(mblk_other W _ (by have := (HG.out.rs r hr).1; omega)).trans (HG.out.rs r hr).2, lt_of_get (HG.out.rs r hr).2, (HG.out.rs r hr).1⟩
  have hps := pubL_spec HW.out F'
  have key : Calls Try.prog 87 #[.pointer (some ⟨mb, 0, none⟩)] (W.setCell ⟨D, 0, none⟩ (.bool false)) fun e w' => ∃ A c, e = .returned (.slice A (T.length + 1) c) ∧ w'.cell? ⟨w.heap.size, 0, none⟩ = some (.pointer (some ⟨mb, 0, none⟩)) ∧ w.heap.size < w'.heap.size ∧
      Hid (OwnB w' (D + 2) (.slice A (T.length + 1) c) (pubL T F')) ∧ Hid (LookI B w mb tp v1 v2 u1 u2 T D F' C' false w') ∧ Hid (∀ r ∈ rs, w'.heap[r]? = some (.deferred (some [])) ∧ r < w'.heap.size ∧ D + 2 ≤ r) := by
    refine (publics_any _ HC1.out.m.at_ HC1.out.t hT1).mono ?_
    rintro e w' ⟨v, rfl, ho, hb⟩
    have hI' := HC1.out.below hb
    obtain ⟨A, c, hv⟩ := ho.slice
    rw [hps.1] at hv
    subst hv
    exact ⟨A, c, rfl, by rw [cell_of_row w' _ 0 _ _ _ hI'.x]; rfl, lt_of_get hI'.x, ho.mono (by rw [hsz]; omega), hI', fun r hr => ⟨(hb.block r (by rw [hsz]; exact (HRB.out r hr).2.1)).trans (HRB.out r hr).1, Nat.lt_of_lt_of_le (by rw [hsz]; exact (HRB.out r hr).2.1) hb.size, (HRB.out r hr).2.2⟩⟩
  have HG1 := HG
  clear hI hT1 hps hDW hsz HRB HC1
  gi_wp2_with (first
    | (refine ⟨trivial, ?_⟩; gi_at_call 87; refine (callsIn_wide.2 key).mono ?_; clear key; rintro e Wp ⟨A, c, rfl, xp, xlt, HVP, HIP, HRP⟩)
    | (refine ⟨trivial, ?_⟩; gi_at_call 88; refine (callsIn_wide.2 (terms_any _ _)).mono ?_; rintro e Wt ⟨rfl, rfl⟩))
  obtain ⟨Wr, hWr⟩ : ∃ Wr, Wr = (Wp.alloc (.cells #[.slice A (T.length + 1) c] 117)).alloc (.cells #[.pointer (some ⟨mb, 0, none⟩)] 93) := ⟨_, rfl⟩
  have hbr : Below Wp.heap.size Wp Wr := by rw [hWr]; exact (below_new _).alloc (by simp) _
  have hsr : Wr.heap.size = Wp.heap.size + 2 := by rw [hWr]; simp
  have HR0 : Hid (LookR B w mb tp v1 v2 u1 u2 T D Wp.heap.size (Wp.heap.size + 1) (.slice A (T.length + 1) c) (pubL T F') ⟨F', C', false⟩ Wr) := by
    refine ⟨HIP.out.below hbr, ?_, HVP.out.below hbr, ?_, HIP.out.sz, by have := HIP.out.sz; omega⟩
    · rw [hWr]; exact (Below.heap_alloc _ _ _ (by simp)).trans (heap_alloc_new Wp _)
    · have := heap_alloc_new (Wp.alloc (.cells #[.slice A (T.length + 1) c] 117)) (.cells #[.pointer (some ⟨mb, 0, none⟩)] 93)
      rw [World.size_alloc] at this
      rw [hWr]; exact this
  have HRR : Hid (∀ r ∈ rs, Wr.heap[r]? = some (.deferred (some [])) ∧ r < Wr.heap.size ∧ D + 2 ≤ r) := fun r hr => ⟨(hbr.block r (HRP.out r hr).2.1).trans (HRP.out r hr).1, by have := (HRP.out r hr).2.1; omega, (HRP.out r hr).2.2⟩
  have HWD : Hid (D + 2 ≤ Wr.heap.size) := HR0.out.l.sz
  rw [← hWr]
  generalize Wp.heap.size = gp at HR0 ⊢
  clear hWr hbr hsr HVP HIP HRP xp xlt x0 c1 cf
  refine range_gives (m := 0) (gf := 97) (lb := #[.pointer (some ⟨gp + 1, 0, none⟩)]) rfl (enters_of Try.func97 (by kernel_rfl) rfl)
    (terms_gives (B := B) (mb := mb) (bx := gp + 1) (tp := tp) (T := T) 0 hT) (fun x => rfl)
    (fun k W => LookR B w mb tp v1 v2 u1 u2 T D gp (gp + 1) (.slice A (T.length + 1) c) (pubL T F') (passK T (pubL T F') ⟨F', C', false⟩ k) W ∧ ∀ r ∈ rs, W.heap[r]? = some (.deferred (some [])))
    (termAx T (fun s5 s6 s24 s25 => #[.pointer (some ⟨mb, 0, none⟩), .pointer (some ⟨w.heap.size, 0, none⟩), .pointer (some ⟨D, 0, none⟩), .pointer (some ⟨D + 1, 0, none⟩), .pointer (some ⟨gp, 0, none⟩), s5, s6, s7, s8, s9, s10, s11, s12, s13, s14, s15, s16, s17, s18, .bool true, .pointer (some ⟨mb, 0, none⟩), .slice A (T.length + 1) c, .pointer (some ⟨mb, 0, none⟩), .func (.func 97) #[] #[.pointer (some ⟨gp + 1, 0, none⟩)], s24, s25, s26, s27, s28, s29, s30, s31, s32, s33, s34, s35, s36, s37, s38, s39, s40, s41, s42, s43, s44, s45, s46, s47, s48, s49, s50, s51, s52, s53, s54, s55, s56, s57, s58, s59, s60, s61]))
    (fun k W W' h hf => ⟨h.1.lp HWD.out hf, fun r hr => hf.block r _ (h.2 r hr) (.inl (HRR.out r hr).2.1)⟩) (fun k x a W W' h hf => h.lp hf) (fun k W h => ⟨⟨_, _, _, h.1.l.m.at_.blk⟩, h.1.l.t, h.1.y⟩) ⟨HR0.out, fun r hr => (HRR.out r hr).1⟩ ?assign ?body ?done
  case assign =>
    intro l k x W K hI hN hGd hK
    simp only [tEnc]
    gi_wp2
    exact hK _ _ (below_new _) ⟨hGd.1, hGd.2.1, W.heap.size, ⟨heap_alloc_new W _, hGd.2.2.below (below_new _)⟩, rfl⟩
  case body =>
    rintro l k ⟨h, nd, A', c'⟩ a1 W hN ⟨hI, hrs⟩ ⟨hx1, hx2, g, hn, rfl⟩
    simp only at hx1 hx2 hn ⊢
    subst hx1
    have hmx : Try.prog.follows .mixedOrders = true := by kernel_rfl
    have hnd : nd = T[k] := by rw [List.getElem?_eq_getElem hN] at hx2; exact (Option.some.inj hx2).symm
    have hg : getT T ((k : Int) + 1) = some nd := by rw [getT_nat]; exact hx2
    have hgood := HW.out.get hg
    have hlen : LenK T (passK T (pubL T F') ⟨F', C', false⟩ k) := (passK_more HW.out (pubL T F') HG.out.len k (by omega)).2
    have hsucc : passK T (pubL T F') ⟨F', C', false⟩ (k + 1) = stepK (pubL T F') (passK T (pubL T F') ⟨F', C', false⟩ k) ((k : Int) + 1) nd := by rw [passK_succ hN, hnd]
    have hlen2 := stepK_more HW.out hlen (pubL T F') hg
    have hlm := (stepMade_more hlen (pubL T F') hg).2
    have hpl := (pubL_spec HW.out F').1
    rw [hsucc]
    have HRS := Lib.hid hrs
    clear hnd hx2 hsucc hrs
    generalize passK T (pubL T F') ⟨F', C', false⟩ k = st at *
    generalize pubL T F' = pub at *
    obtain ⟨sm, hsm⟩ : ∃ sm, sm = stepMade pub st ((k : Int) + 1) nd := ⟨_, rfl⟩
    have HG1 := Lib.hid hg
    have HLEN := Lib.hid hlen
    have HLM := Lib.hid hlm
    have HSM := Lib.hid hsm
    have HPL := Lib.hid hpl
    have HIR := Lib.hid hI
    have HN := Lib.hid hn
    have HGD := Lib.hid hgood
    obtain ⟨Mid, hMid⟩ : ∃ Mid : Exit → Act → World → Prop, Mid = fun e a' w' => e = .normal ∧ ∃ s7 s8 s9 s10 s11 s12 s13 s14 s15 s16 s17 s18 s19 s20 s21 s22 s23 s24 s25 s26 s27 s28 s29 s30 s31 s32 s33 s34 s35 s36 s37 s38 s39 s40 s41 s42 s43 s44 s45 s46 s47 s48 s49 s50 s51 s52 s53 s54 s55 s56 s57 s58 s59 s60 s61, a' = ⟨#[.pointer (some ⟨mb, 0, none⟩), .pointer (some ⟨w.heap.size, 0, none⟩), .pointer (some ⟨D, 0, none⟩), .pointer (some ⟨D + 1, 0, none⟩), .pointer (some ⟨gp, 0, none⟩), .int .i64 ((k : Int) + 1), .pointer (some ⟨g, 0, none⟩), s7, s8, s9, s10, s11, s12, s13, s14, s15, s16, s17, s18, s19, s20, s21, s22, s23, s24, s25, s26, s27, s28, s29, s30, s31, s32, s33, s34, s35, s36, s37, s38, s39, s40, s41, s42, s43, s44, s45, s46, s47, s48, s49, s50, s51, s52, s53, s54, s55, s56, s57, s58, s59, s60, s61], []⟩ ∧ LookR B w mb tp v1 v2 u1 u2 T D gp (gp + 1) (.slice A (T.length + 1) c) pub sm w' ∧ NodeAt w' g nd A' c' ∧ KeepLp W w' := ⟨_, rfl⟩
    have HMid := Lib.hid hMid
    clear hMid
    refine wpIn_block (wpIn_seq (wpIn_mono (Q := Mid) ?first ?second))
    case first =>
      have x0 : W.cell? ⟨w.heap.size, 0, none⟩ = some (.pointer (some ⟨mb, 0, none⟩)) := by rw [cell_of_row W _ 0 _ _ _ hI.l.x]; rfl
      have n0 : W.cell? ⟨g, 0, none⟩ = some (.int .i64 nd.kind) := by rw [cell_of_row W _ 0 _ _ _ hn.1]; rfl
      have n1 : W.cell? ⟨g, 1, none⟩ = some (.string nd.text) := by rw [cell_of_row W _ 1 _ _ _ hn.1]; rfl
      have n2 : W.cell? ⟨g, 2, none⟩ = some (.slice A' nd.parts.length c') := by rw [cell_of_row W _ 2 _ _ _ hn.1]; rfl
      have p0 : W.cell? ⟨gp, 0, none⟩ = some (.slice A (T.length + 1) c) := by rw [cell_of_row W _ 0 _ _ _ hI.p]; rfl
      obtain ⟨bm, hbm⟩ : ∃ b, b = madeB st.F st.C pub ((k : Int) + 1) nd := ⟨_, rfl⟩
      have key : Calls Try.prog 89 #[.pointer (some ⟨mb, 0, none⟩), .int .i64 ((k : Int) + 1), .agg #[.int .i64 nd.kind, .string nd.text, .slice A' nd.parts.length c'], .slice A (T.length + 1) c] W fun e w' => e = .returned (.bool bm) ∧
          w'.cell? ⟨w.heap.size, 0, none⟩ = some (.pointer (some ⟨mb, 0, none⟩)) ∧ w'.cell? ⟨D + 1, 0, none⟩ = some (.func (.func 86) #[] #[.pointer (some ⟨D, 0, none⟩)]) ∧ w'.cell? ⟨mb, 2, none⟩ = some u2 ∧
          Hid (LookR B w mb tp v1 v2 u1 u2 T D gp (gp + 1) (.slice A (T.length + 1) c) pub st w') ∧ Hid (NodeAt w' g nd A' c') ∧ Hid (KeepLp W w') := by
        refine (made_any ((k : Int) + 1) nd A' c' W HW.out hg hI.l.m.at_ hlen.F hlen.C hI.r hpl hn.2).mono ?_
        rintro e w' ⟨he, hb⟩
        have q := hI.below hb
        exact ⟨by rw [hbm]; exact he, by rw [cell_of_row w' _ 0 _ _ _ q.l.x]; rfl, by rw [cell_of_row w' _ 0 _ _ _ q.l.s]; rfl, q.l.m.at_.cells.2.2.1, q, hn.below hb, .of_below hb⟩
      have HBM := Lib.hid hbm
      clear hbm hI hn hg hgood hlen hlen2 hlm hsm hpl
      gi_wp2_with (refine ⟨trivial, rfl, ?_⟩; gi_at_call 89; refine (CallsIn.inRound l (callsIn_wide.2 key)).mono ?_; clear key; rintro e w' ⟨rfl, x1, s1, c2, HR1, HN1, HK1⟩; cases bm)
      · have hsm : sm = st := by have h1 := HSM.out; have h2 := HBM.out; unfold stepMade at h1; rw [← h2] at h1; simpa using h1
        rw [HMid.out]
        exact ⟨rfl, _, _, _, _, _, _, _, _, _, _, _, _, _, _, _, _, _, _, _, _, _, _, _, _, _, _, _, _, _, _, _, _, _, _, _, _, _, _, _, _, _, _, _, _, _, _, _, _, _, _, _, _, _, _, _, rfl, by rw [hsm]; exact HR1.out, HN1.out, HK1.out⟩
      · have hsm : sm = Go.Proofs.Ytomopjpfdmpgpaa.setC st ((k : Int) + 1) := by have h1 := HSM.out; have h2 := HBM.out; unfold stepMade at h1; rw [← h2] at h1; simpa using h1
        have hkl : (k : Int) + 1 < (st.C.length : Int) := by have := HLEN.out.C; omega
        have HI1 := HR1.out.l
        have key := set_any (B := B) u2 st.C ((k : Int) + 1) D st.ch w'.drew (HI1.m.at_.c.same fun _ _ => rfl) (by omega) hkl HI1.c (fun e => by have := (HI1.ne D (.inr (.inr e))).2; omega)
        have HFIN : Hid (∀ w2, OwnB w2 B u2 (setL st.C ((k : Int) + 1)) → BoolAt w2 D (st.ch || !bget st.C ((k : Int) + 1)) → MFrm (fun k => u2.ownBlock = some k ∨ k = D) w'.drew w2 →
            LookR B w mb tp v1 v2 u1 u2 T D gp (gp + 1) (.slice A (T.length + 1) c) pub sm w2 ∧ NodeAt w2 g nd A' c' ∧ KeepLp W w2) := by
          intro w2 ho hc hf
          have hdr : Below w'.heap.size w' w'.drew := ⟨rfl, rfl, rfl, Nat.le_refl _, fun _ _ => rfl⟩
          have hr := HR1.out.below hdr
          have hm := hr.frmC hf
          rw [hsm]
          exact ⟨hr.setC ho hc hf, (HN1.out.below hdr).mnd hm, HK1.out.trans ((KeepLp.of_below hdr).trans (KeepLp.of_mnd hm))⟩
        clear HI1 HR1 HN1 HK1 hsm
        obtain ⟨M13, hM13⟩ : ∃ M : Act → World → Prop, M = fun a w => Mid .normal a w := ⟨_, rfl⟩
        have HM13 := Lib.hid hM13
        clear hM13
        refine wpIn_mono (Q := onlyEnd M13) ?_ (fun e a wq h => ?_)
        · gi_region_with_o (refine ⟨trivial, rfl, ?_⟩; gi_at_call 86; refine (CallsIn.inRound l (callsIn_wide.2 key)).mono ?_; clear key; rintro e w2 ⟨rfl, ho, hc, hf, hz⟩)
          all_goals show M13 _ _
          all_goals rw [HM13.out, HMid.out]
          all_goals exact ⟨rfl, _, _, _, _, _, _, _, _, _, _, _, _, _, _, _, _, _, _, _, _, _, _, _, _, _, _, _, _, _, _, _, _, _, _, _, _, _, _, _, _, _, _, _, _, _, _, _, _, _, _, _, _, _, _, _, rfl, HFIN.out _ ho hc hf⟩
        · cases e with
          | normal => have h' : M13 a wq := h; rw [HM13.out] at h'; exact h'
          | _ => exact h.elim
    case second =>
      intro e a' w2 hq
      rw [HMid.out] at hq
      obtain ⟨rfl, s7, s8, s9, s10, s11, s12, s13, s14, s15, s16, s17, s18, s19, s20, s21, s22, s23, s24, s25, s26, s27, s28, s29, s30, s31, s32, s33, s34, s35, s36, s37, s38, s39, s40, s41, s42, s43, s44, s45, s46, s47, s48, s49, s50, s51, s52, s53, s54, s55, s56, s57, s58, s59, s60, s61, rfl, hI2, hn2, hk2⟩ := hq
      clear HMid
      rw [← hsm] at hlm
      have hFl := hlm.F
      have hCl := hlm.C
      have x0 : w2.cell? ⟨w.heap.size, 0, none⟩ = some (.pointer (some ⟨mb, 0, none⟩)) := by rw [cell_of_row w2 _ 0 _ _ _ hI2.l.x]; rfl
      have m1 := hI2.l.m.at_.cells.2.1
      obtain ⟨gF, capF, eF, hcF, qF⟩ := hI2.l.m.at_.f.at_ (p := (k : Int) + 1) (by omega) (by omega)
      rw [show ((k : Int) + 1).toNat = k + 1 from by omega] at qF
      obtain ⟨bF, hbF⟩ : ∃ b, b = bget sm.F ((k : Int) + 1) := ⟨_, rfl⟩
      rw [← hbF] at qF
      have hkF : (k : Int) + 1 < (sm.F.length : Int) := by omega
      have hkz : (0 : Int) ≤ (k : Int) + 1 := by omega
      have hkt : ((k : Int) + 1).toNat = k + 1 := by omega
      have hsK : stepK pub st ((k : Int) + 1) nd = stepOpen sm ((k : Int) + 1) nd := by rw [hsm]; rfl
      rw [hsK]
      obtain ⟨sF, hsF⟩ : ∃ s, s = stepOpen sm ((k : Int) + 1) nd := ⟨_, rfl⟩
      rw [← hsF]
      obtain ⟨R, hR⟩ : ∃ R, R = roundEnd (fun W W' => (∀ (k : Nat) (o : Obj), W.heap[k]? = some o → lpO o = true → W'.heap[k]? = some o) ∧ LookR B w mb tp v1 v2 u1 u2 T D gp (gp + 1) (.slice A (T.length + 1) c) pub sF W' ∧ ∀ r ∈ rs, W'.heap[r]? = some (.deferred (some []))) W := ⟨_, rfl⟩
      have HFIN : Hid (∀ a w3, LookR B w mb tp v1 v2 u1 u2 T D gp (gp + 1) (.slice A (T.length + 1) c) pub sF w3 → KeepLp W w3 → R .normal a w3) := fun a w3 h1 h2 => by
        rw [hR]
        exact ⟨h2, h1, fun r hr => h2 r _ (HRS.out r hr) rfl⟩
      rw [← hR]
      have HI2 := Lib.hid hI2
      have HN2 := Lib.hid hn2
      have HK2 := Lib.hid hk2
      cases bF with
      | false =>
        have HS2 : Hid (sF = sm) := by show _ = _; rw [hsF]; unfold stepOpen; rw [← hbF]; simp
        rw [eF] at m1
        clear hR hI2 hn2 hk2 hI hn hg hgood hlen hlen2 hlm hsm hpl hFl hCl hbF hsK hsF eF
        gi_wp2
        exact HFIN.out _ _ (by rw [HS2.out]; exact HI2.out) HK2.out
      | true =>
      have HS2 : Hid (sF = (openedL sm.C nd).foldl Go.Proofs.Ytomopjpfdmpgpaa.setF sm) := by show _ = _; rw [hsF]; unfold stepOpen; rw [← hbF]; simp
      have n0 : w2.cell? ⟨g, 0, none⟩ = some (.int .i64 nd.kind) := by rw [cell_of_row w2 _ 0 _ _ _ hn2.1]; rfl
      have n1 : w2.cell? ⟨g, 1, none⟩ = some (.string nd.text) := by rw [cell_of_row w2 _ 1 _ _ _ hn2.1]; rfl
      have n2 : w2.cell? ⟨g, 2, none⟩ = some (.slice A' nd.parts.length c') := by rw [cell_of_row w2 _ 2 _ _ _ hn2.1]; rfl
      have hLm := openedL_mem HW.out hg sm.C
      obtain ⟨L, hL⟩ : ∃ L, L = openedL sm.C nd := ⟨_, rfl⟩
      have HLM : Hid (∀ p ∈ L, 1 ≤ p ∧ p ≤ T.length) := fun p hp => (hLm p (by rw [← hL]; exact hp)).2
      have hL16 : L.length ≤ 16 := by
        have h1 := hgood.many
        have h2 : L.length ≤ nd.parts.length := by
          rw [hL]; unfold openedL
          split
          · exact Nat.le_refl _
          · split
            · simp
            · split
              · split
                · simp
                · simp
              · simp
        omega
      rw [← hL] at HS2
      have key : Calls Try.prog 90 #[.pointer (some ⟨mb, 0, none⟩), .agg #[.int .i64 nd.kind, .string nd.text, .slice A' nd.parts.length c']] w2 fun e w' => ∃ A3 c3, e = .returned (.slice A3 L.length c3) ∧
          Hid (LookR B w mb tp v1 v2 u1 u2 T D gp (gp + 1) (.slice A (T.length + 1) c) pub sm w') ∧ Hid (KeepLp W w') ∧ Hid (Rds 0 w' .i64 A3 L.length c3 L) := by
        refine (opened_any nd A' c' w2 hI2.l.m.at_ hn2.2 (fun q => ⟨(hgood.k6 (.inr q)).1, ?_⟩) fun q => (hgood.k9 q).1).mono ?_
        · have := (hgood.k6 (.inr q)).1
          have := nth_range HW.out hg (i := 0) (by omega)
          omega
        · rintro e w' ⟨A3, c3, he, hr, hb⟩
          rw [← hL] at he hr
          exact ⟨A3, c3, he, hI2.below hb, hk2.trans (.of_below hb), hr⟩
      have HFL := Lib.hid hlm
      have m1' := m1
      rw [eF] at m1
      clear hR hI2 hn2 hk2 hI hn hg hgood hlen hlen2 hlm hsm hpl hFl hCl hbF hsK hsF hL hLm m1' eF
      gi_wp2_with (refine ⟨trivial, rfl, ?_⟩; gi_at_call 90; refine (CallsIn.inRound l (callsIn_wide.2 key)).mono ?_; clear key; rintro e w3 ⟨A3, c3, rfl, HR3, HK3, HL3⟩)
      gi_loopw [50] (fun i wr => ∃ j : Nat, j ≤ L.length ∧ i = .int .i64 j ∧ Hid (LookR B w mb tp v1 v2 u1 u2 T D gp (gp + 1) (.slice A (T.length + 1) c) pub ((L.take j).foldl Go.Proofs.Ytomopjpfdmpgpaa.setF sm) wr ∧ LenK T ((L.take j).foldl Go.Proofs.Ytomopjpfdmpgpaa.setF sm)) ∧ Hid (KeepLp W wr) ∧ Hid (Rds 0 wr .i64 A3 L.length c3 L)) (fun i wr => L.length - (intOf i).toNat)
      case atStart => exact ⟨0, Nat.zero_le _, rfl, ⟨HR3.out, HFL.out⟩, HK3.out, HL3.out⟩
      case round =>
        obtain ⟨j, hj, rfl, HRj, HKj, HLj⟩ := hrel
        by_cases hlt : j < L.length
        rotate_left
        · obtain rfl : j = L.length := by omega
          have q := HRj.out.1
          rw [List.take_length, ← HS2.out] at q
          have HQ := Lib.hid q
          clear q
          gi_wp2
          exact HFIN.out _ _ HQ.out HKj.out
        · have hr := HRj.out.1
          have hln := HRj.out.2
          obtain ⟨bA, oA, rfl, hcl⟩ := RdI.at_ HLj.out.cell (by omega)
          have a0 := hcl j hlt
          have hpm := HLM.out L[j] (List.getElem_mem hlt)
          obtain ⟨p, hp⟩ : ∃ p, p = nth L j := ⟨_, rfl⟩
          have hpe : p = L[j] := by rw [hp]; simp [nth, hlt]
          rw [← hp] at a0
          rw [← hpe] at hpm
          have htk : (L.take (j + 1)).foldl Go.Proofs.Ytomopjpfdmpgpaa.setF sm = Go.Proofs.Ytomopjpfdmpgpaa.setF ((L.take j).foldl Go.Proofs.Ytomopjpfdmpgpaa.setF sm) p := by
            rw [List.take_add_one, List.foldl_append, List.getElem?_eq_getElem hlt, hpe]; rfl
          have HTK := Lib.hid htk
          clear htk hcl hp hpe
          obtain ⟨sj, hsj⟩ : ∃ sj, sj = (L.take j).foldl Go.Proofs.Ytomopjpfdmpgpaa.setF sm := ⟨_, rfl⟩
          rw [← hsj] at hr hln HTK
          have x1 : wr.cell? ⟨w.heap.size, 0, none⟩ = some (.pointer (some ⟨mb, 0, none⟩)) := by rw [cell_of_row wr _ 0 _ _ _ hr.l.x]; rfl
          have s1 : wr.cell? ⟨D + 1, 0, none⟩ = some (.func (.func 86) #[] #[.pointer (some ⟨D, 0, none⟩)]) := by rw [cell_of_row wr _ 0 _ _ _ hr.l.s]; rfl
          have m2 := hr.l.m.at_.cells.2.1
          have hsl := hln.F
          have key := set_any (B := B) u1 sj.F p D sj.ch wr.drew (hr.l.m.at_.f.same fun _ _ => rfl) (by omega) (by omega) hr.l.c (fun e => by have := (hr.l.ne D (.inr (.inl e))).2; omega)
          have HFIN2 : Hid (∀ w4, OwnB w4 B u1 (setL sj.F p) → BoolAt w4 D (sj.ch || !bget sj.F p) → MFrm (fun k => u1.ownBlock = some k ∨ k = D) wr.drew w4 →
              Hid (LookR B w mb tp v1 v2 u1 u2 T D gp (gp + 1) (.slice A (T.length + 1) c) pub ((L.take (j + 1)).foldl Go.Proofs.Ytomopjpfdmpgpaa.setF sm) w4 ∧ LenK T ((L.take (j + 1)).foldl Go.Proofs.Ytomopjpfdmpgpaa.setF sm)) ∧ Hid (KeepLp W w4) ∧ Hid (Rds 0 w4 .i64 (some ⟨bA, oA, none⟩) L.length c3 L)) := by
            intro w4 ho hc hf
            have hdr : Below wr.heap.size wr wr.drew := ⟨rfl, rfl, rfl, Nat.le_refl _, fun _ _ => rfl⟩
            have hr' := hr.below hdr
            have hm := hr'.frmF hf
            refine ⟨?_, HKj.out.trans ((KeepLp.of_below hdr).trans (KeepLp.of_mnd hm)), (HLj.out.below hdr).mnd0 hm⟩
            rw [HTK.out]
            exact ⟨hr'.setF ho hc hf, (setF_more hln hpm.1 hpm.2).2.1⟩
          have hji : (j : Int) < (L.length : Int) := by omega
          clear HRj HKj HLj HR3 HK3 HL3 hr hln hsj hsl HTK hpm HI2 HN2 HK2
          gi_wp2
          obtain ⟨M18, hM18⟩ : ∃ M : Act → World → Prop, M = fun a w₂ => ∃ s54 s55 s56 s57 s58 s59 s60, a = ⟨#[.pointer (some ⟨mb, 0, none⟩), .pointer (some ⟨w.heap.size, 0, none⟩), .pointer (some ⟨D, 0, none⟩), .pointer (some ⟨D + 1, 0, none⟩), .pointer (some ⟨gp, 0, none⟩), .int .i64 ((k : Int) + 1), .pointer (some ⟨g, 0, none⟩), s7, .int .i64 p, s9, s10, s11, s12, s13, s14, s15, s16, s17, s18, s19, s20, s21, s22, s23, s24, s25, s26, s27, s28, s29, s30, s31, s32, s33, s34, s35, s36, s37, .pointer (some ⟨mb, 0, none⟩), .pointer (some ⟨mb, 0, none⟩), .pointer (some ⟨mb, 1, none⟩), .slice (some ⟨gF, 0, none⟩) sm.F.length capF, .int .i64 ((k : Int) + 1), .pointer (some ⟨gF, k + 1, none⟩), .bool true, .bool false, .pointer (some ⟨mb, 0, none⟩), .agg #[.int .i64 nd.kind, .string nd.text, .slice A' nd.parts.length c'], .slice (some ⟨bA, oA, none⟩) L.length c3, .int .i64 L.length, .int .i64 j, .bool true, .pointer (some ⟨bA, oA + j, none⟩), .int .i64 p, s54, s55, s56, s57, s58, s59, s60, u61], []⟩ ∧
              OwnB w₂ B u1 (setL sj.F p) ∧ BoolAt w₂ D (sj.ch || !bget sj.F p) ∧ MFrm (fun k => u1.ownBlock = some k ∨ k = D) wr.drew w₂ := ⟨_, rfl⟩
          have HM18 := Lib.hid hM18
          clear hM18
          refine wpIn_mono (Q := onlyEnd M18) ?_ (fun e a wq h => ?_)
          · gi_region_with_o (refine ⟨trivial, rfl, ?_⟩; gi_at_call 86; refine (CallsIn.inRound l (callsIn_wide.2 key)).mono ?_; clear key; rintro e w4 ⟨rfl, ho, hc, hf, hz⟩)
            all_goals show M18 _ _
            all_goals rw [HM18.out]
            all_goals exact ⟨_, _, _, _, _, _, _, rfl, ho, hc, hf⟩
          · cases e with
            | normal =>
              have h' : M18 a wq := h
              rw [HM18.out] at h'
              obtain ⟨s54, s55, s56, s57, s58, s59, s60, rfl, ho, hc, hf⟩ := h'
              clear h
              gi_wp2
              go_roundw
              case rel => exact ⟨j + 1, by omega, by go_num, HFIN2.out _ ho hc hf⟩
              case measure => simp [intOf]; omega
            | _ => exact h.elim
  case done =>
    intro W hI hmk
    have HI' := Lib.hid hI
    have HK := Lib.hid hmk
    clear hI hmk
    gi_wp2
    have hso := onePass_sound HW.out HG.out.len HG.out.sd
    have hdn := fun q => onePass_done HW.out HG.out.len HG.out.sd HG.out.bs q
    have hbs := HG.out.bs
    have hl0 := HG.out.len
    have ha : (onePass T F' C').F.length = T.length + 1 := hso.2.1.F
    have hb : (onePass T F' C').C.length = T.length + 1 := hso.2.1.C
    have hlt2 := cntB_le (onePass T F' C').F
    have hlt3 := cntB_le (onePass T F' C').C
    have hcnt := hso.2.2.cnt
    have hcl := hso.2.2.cntle
    have hI2 : LookR B w mb tp v1 v2 u1 u2 T D gp (gp + 1) (.slice A (T.length + 1) c) (pubL T F') (onePass T F' C') W := HI'.out.1
    have hrs := HI'.out.2
    simp only at hcnt hcl hbs
    generalize onePass T F' C' = t at *
    refine ⟨(t.F, t.C, t.ch, Wr.heap.size :: rs), ⟨_, _, _, _, _, _, _, _, _, _, _, _, _, _, _, _, _, _, _, _, _, _, _, _, _, _, _, _, _, _, _, _, _, _, _, _, _, _, _, _, _, _, _, _, _, _, _, _, _, _, _, _, _, _, _, _, _, _, rfl, hI2.l, List.nodup_cons.2 ⟨fun q => by have := (HRR.out _ q).2.1; omega, HG.out.nd⟩, ?_, ⟨ha, hb⟩, hso.1, fun h n hg hS => hso.2.2.F h (hbs h n hg hS), hdn⟩, ?_⟩
    · intro r hr
      rcases List.mem_cons.1 hr with rfl | hr
      · exact ⟨HWD.out, HK.out⟩
      · exact ⟨(HRR.out r hr).2.2, hrs r hr⟩
    · show 2 * (2 * (T.length + 1) - (cntB t.F + cntB t.C)) + t.ch.toNat < 2 * (2 * (T.length + 1) - (cntB F' + cntB C')) + true.toNat
      cases hch : t.ch with
      | false => simp only [Bool.toNat_false, Bool.toNat_true]; omega
      | true => have := hcnt hch trivial; simp only [Bool.toNat_true]; omega
end Go.Proofs.Ytomopjpfdmpgpaa
