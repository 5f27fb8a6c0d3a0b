/- The walk of SchedSecrets. No condition. Printed by gen_secrets.py. -/
import Derived.Test.YtomopjpfdmpgpaaSchedTickets
import Derived.Test.YtomopjpfdmpgpaaSchedRw
import Derived.Test.YtomopjpfdmpgpaaPureSecrets
import Derived.Test.YtomopjpfdmpgpaaKnow12
set_option linter.unusedVariables false
set_option linter.unusedSimpArgs false
namespace Go.Proofs.Ytomopjpfdmpgpaa
open Go Go.RowKit Go.WideMaps

set_option maxHeartbeats 12800000 in
set_option maxRecDepth 100000 in
theorem secrets15_walk (w : World) (A0 : Option Addr) (n0 c0 : Nat) (gs : List Int) (hg : Rds w.heap.size w .u8 A0 n0 c0 gs) (A1 : Option Addr) (n1 c1 : Nat) (L : List (List Int)) (h1 : RdRows w.heap.size w A1 n1 L) (knows : Bool) :
    Calls Try.prog 5 #[.slice A0 n0 c0, .slice A1 n1 c1, .bool knows] w (AwakePost w) := by
  have HG := Lib.hid hg
  have H1 := Lib.hid h1
  have hgl := hg.len
  clear hg h1
  go_enter Try.func5, Try.ntmps5
  by_cases k0 : 50 < n0
  · have HGL := Lib.hid hgl
    clear hgl
    go_wp2_with fail
    go_ret
    exact ⟨rfl, Below.refl _ _⟩
  have HGL : Hid (gs.length ≤ 50) := by show _ ≤ _; omega
  clear hgl
  by_cases k1 : 10 < n1
  · go_wp2_with fail
    go_ret
    exact ⟨rfl, Below.refl _ _⟩
  go_wp2_with fail
  refine (new_any w).mono ?_
  rintro e w1 ⟨tb, rfl, ht1, hb1⟩
  have key := begin_any w1 ht1
  have HF1 := Lib.hid (Frm.of_below (C := tabO) (B := w.heap.size) hb1)
  clear ht1 hb1
  go_wp2_with fail
  refine key.mono ?_
  clear key
  rintro e w2 p2
  obtain ⟨rfl, ht2, hf2⟩ := p2.intro begin_eq
  have HF2 := Lib.hid (HF1.out.trans hf2)
  have HT2 := Lib.hid ht2
  have HB2 := Lib.hid (HF2.out.below (Nat.le_refl _))
  clear p2 ht2 hf2 HF1 HF2
  go_wp2_with fail
  go_loopw [8, 9] (fun x i wr => ∃ (k : Nat) (T : List Nd) (tr : Int), k ≤ n1 ∧ i = .int .i64 k ∧ x = .int .i64 tr ∧ IsTab w.heap.size wr tb T ∧ (∃ nd, getT T tr = some nd ∧ (nd.kind = 1 ∨ nd.kind = 4)) ∧ getT T 1 = some (nT ByteArray.empty) ∧ T.length ≤ 1 + 5 * k ∧ Below w.heap.size w wr) (fun _ i _ => n1 - (intOf i).toNat)
  case atStart => exact ⟨0, [nT ByteArray.empty], 1, Nat.zero_le _, rfl, rfl, HT2.out, ⟨_, rfl, .inl rfl⟩, rfl, by simp, HB2.out⟩
  case round =>
    obtain ⟨k, T0, tr, hk, rfl, rfl, ht, hx, hy, hTl, hb⟩ := hrel
    have TK := Lib.hid hx
    have IX : Hid (In T0 tr) := by obtain ⟨nd, g1, -⟩ := hx; exact .of g1
    have EM := Lib.hid hy
    have HT0 := Lib.hid ht
    have HB0 := Lib.hid hb
    have FT : Hid (Fit tr) := by have := IX.out.range; have := ht.1.len; exact ⟨by omega, by omega⟩
    clear hx hy ht hb HT2 HB2
    by_cases hlt : k < n1
    · obtain ⟨xs, hxs⟩ : ∃ xs, L[k]? = some xs := ⟨_, List.getElem?_eq_getElem (by have := H1.out.1; omega)⟩
      obtain ⟨b, o, A', c', rfl, x0, hr⟩ := (H1.out.below HB0.out).at_ hxs
      have hi0 : (0 : Int) ≤ (k : Int) := by omega
      have hi1 : (k : Int) < (n1 : Int) := by omega
      by_cases hlong : 200 < xs.length
      · clear hr
        go_wp2_with fail
        go_ret
        exact ⟨rfl, HB0.out⟩
      have key := next_any tr A' _ c' xs wr HT0.out hr FT.out
      have S := next_spec (T := T0) (tr := tr) (m := strOfNums xs) HT0.out.1 (by rw [strOfNums_size]; omega) (by omega) IX.out
      have E := nextT_ext T0 tr (strOfNums xs)
      clear hr hxs
      go_wp2_with fail
      refine key.mono ?_
      clear key
      rintro e w4 p4
      obtain ⟨T4, h4, e4, rfl, ht4, hf4⟩ := TabPost.of (Frm.refl _ _ _) p4
      rw [e4] at S E
      simp only at S E
      obtain ⟨row, tx, S1, S2, S3⟩ := S
      have hl4 : T4.length ≤ 4 + 5 * k := by have := E.len; omega
      have HB4 := Lib.hid (HB0.out.trans (hf4.below HB0.out.size))
      have HT4 := Lib.hid ht4
      have TK4 : Hid (∃ nd, getT T4 h4 = some nd ∧ (nd.kind = 1 ∨ nd.kind = 4)) := ⟨_, S1, .inr rfl⟩
      have EM4 : Hid (getT T4 1 = some (nT ByteArray.empty)) := E.get EM.out
      clear p4 e4 ht4 hf4 S1 S2 S3 E x0
      go_wp2_with fail
      go_roundw
      case rel => exact ⟨k + 1, T4, h4, by omega, by go_num, rfl, HT4.out, TK4.out, EM4.out, by omega, HB4.out⟩
      case measure => simp [intOf]; omega
    · obtain rfl : k = n1 := by omega
      have L0 : Hid (T0.length ≤ 51) := by show _ ≤ _; omega
      clear hTl
      obtain ⟨w0, hw0⟩ : ∃ w0, w0 = wr := ⟨_, rfl⟩
      rw [← hw0] at HT0 HB0 ⊢
      clear hw0
      have key := secret_any w0 HT0.out
      go_wp2_with fail
      refine key.mono ?_
      clear key
      rintro e w1 p
      have S := secret_get (T := T0) (by have := L0.out; omega)
      have X := secretT_ext T0
      obtain ⟨⟨T1, x⟩, e1⟩ : ∃ r, secretT T0 = r := ⟨_, rfl⟩
      obtain ⟨rfl, ht, hf⟩ := p.intro e1
      rw [e1] at S X
      simp only at S X
      have HT1 := Lib.hid ht
      have HB1 := Lib.hid (HB0.out.trans (hf.below HB0.out.size))
      have L1 : Hid (T1.length ≤ 52) := by show _ ≤ _; have := X.len; have := L0.out; omega
      have X1 := Lib.hid X
      have SX : Hid (getT T1 x = some ⟨2, ByteArray.empty, []⟩) := S
      have Fx : Hid (Fit x) := by have := (In.of SX.out).range; have := L1.out; exact ⟨by omega, by omega⟩
      clear p e1 ht hf S X HT0 HB0
      have key := secret_any w1 HT1.out
      go_wp2_with fail
      refine key.mono ?_
      clear key
      rintro e w2 p
      have S := secret_get (T := T1) (by have := L1.out; omega)
      have X := secretT_ext T1
      obtain ⟨⟨T2, y⟩, e1⟩ : ∃ r, secretT T1 = r := ⟨_, rfl⟩
      obtain ⟨rfl, ht, hf⟩ := p.intro e1
      rw [e1] at S X
      simp only at S X
      have HT2 := Lib.hid ht
      have HB2 := Lib.hid (HB1.out.trans (hf.below HB1.out.size))
      have L2 : Hid (T2.length ≤ 53) := by show _ ≤ _; have := X.len; have := L1.out; omega
      have X2 := Lib.hid X
      have SY : Hid (getT T2 y = some ⟨2, ByteArray.empty, []⟩) := S
      have Fy : Hid (Fit y) := by have := (In.of SY.out).range; have := L2.out; exact ⟨by omega, by omega⟩
      clear p e1 ht hf S X HT1 HB1
      have key := make_fit (g := w2.heap.size) (t := 32) 7 [x] w2 HT2.out rfl (by simp; exact Fx.out) (by simp) _ rfl (by decide) 1 rfl
      go_wp2_with fail
      refine key.mono ?_
      clear key
      rintro e w3 p
      have S := make_public HT2.out.1 (by have := L2.out; omega) (x := x) (by unfold kindT; rw [(X2.out.get SX.out)])
      have X := makeT_ext T2 7 [x]
      obtain ⟨⟨T3, pk⟩, e1⟩ : ∃ r, makeT T2 7 [x] = r := ⟨_, rfl⟩
      obtain ⟨rfl, ht, hf⟩ := p.intro e1
      rw [e1] at S X
      simp only at S X
      have HT3 := Lib.hid ht
      have HB3 := Lib.hid (HB2.out.trans (hf.below HB2.out.size))
      have L3 : Hid (T3.length ≤ 54) := by show _ ≤ _; have := X.len; have := L2.out; omega
      have X3 := Lib.hid X
      have SP : Hid (getT T3 pk = some ⟨7, ByteArray.empty, [x]⟩) := S
      have Fpk : Hid (Fit pk) := by have := (In.of SP.out).range; have := L3.out; exact ⟨by omega, by omega⟩
      clear p e1 ht hf S X HT2 HB2
      have key := make_fit (g := w3.heap.size) (t := 32) 7 [y] w3 HT3.out rfl (by simp; exact Fy.out) (by simp) _ rfl (by decide) 1 rfl
      go_wp2_with fail
      refine key.mono ?_
      clear key
      rintro e w4 p
      have S := make_public HT3.out.1 (by have := L3.out; omega) (x := y) (by unfold kindT; rw [(X3.out.get SY.out)])
      have X := makeT_ext T3 7 [y]
      obtain ⟨⟨T4, qk⟩, e1⟩ : ∃ r, makeT T3 7 [y] = r := ⟨_, rfl⟩
      obtain ⟨rfl, ht, hf⟩ := p.intro e1
      rw [e1] at S X
      simp only at S X
      have HT4 := Lib.hid ht
      have HB4 := Lib.hid (HB3.out.trans (hf.below HB3.out.size))
      have L4 : Hid (T4.length ≤ 55) := by show _ ≤ _; have := X.len; have := L3.out; omega
      have X4 := Lib.hid X
      have SQ : Hid (getT T4 qk = some ⟨7, ByteArray.empty, [y]⟩) := S
      have Fqk : Hid (Fit qk) := by have := (In.of SQ.out).range; have := L4.out; exact ⟨by omega, by omega⟩
      clear p e1 ht hf S X HT3 HB3
      have key := early_any 0 w4 HT4.out ⟨by omega, by omega⟩
      go_wp2_with fail
      refine key.mono ?_
      clear key
      rintro e w5 p
      obtain ⟨own, S1, S2, S3, X⟩ := early_spec (T := T4) (h := 0) HT4.out.1 (by have := L4.out; omega) (.inl rfl)
      obtain ⟨⟨T5, e0⟩, e1⟩ : ∃ r, earlyT T4 0 = r := ⟨_, rfl⟩
      obtain ⟨rfl, ht, hf⟩ := p.intro e1
      rw [e1] at S2 S3 X
      simp only at S2 S3 X
      have HT5 := Lib.hid ht
      have HB5 := Lib.hid (HB4.out.trans (hf.below HB4.out.size))
      have L5 : Hid (T5.length ≤ 59) := by show _ ≤ _; have := X.len; have := L4.out; omega
      have X5 := Lib.hid X
      have SN : Hid (getT T5 own = some (nT lbNone)) := S2 trivial
      have DE : Hid (Der0 T5 e0 own lbEarly) := S3
      have Fe0 : Hid (Fit e0) := by have := DE.out.in_.range; have := L5.out; exact ⟨by omega, by omega⟩
      clear p e1 ht hf S2 S3 X HT4 HB4
      clear S1
      have key := make_fit (g := w5.heap.size) (t := 32) 8 [x, qk] w5 HT5.out rfl (by simp; exact ⟨Fx.out, Fqk.out⟩) (by simp) _ rfl (by decide) 2 rfl
      go_wp2_with fail
      refine key.mono ?_
      clear key
      rintro e w6 p
      have S := make_shared HT5.out.1 (by have := L5.out; omega) (x := x) (y := qk) (s := y) (by unfold kindT; rw [((X2.out.trans (X3.out.trans (X4.out.trans X5.out))).get SX.out)]) (X5.out.get SQ.out) rfl rfl
      have X := makeT_ext T5 8 [x, qk]
      obtain ⟨⟨T6, sh⟩, e1⟩ : ∃ r, makeT T5 8 [x, qk] = r := ⟨_, rfl⟩
      obtain ⟨rfl, ht, hf⟩ := p.intro e1
      rw [e1] at S X
      simp only at S X
      have HT6 := Lib.hid ht
      have HB6 := Lib.hid (HB5.out.trans (hf.below HB5.out.size))
      have L6 : Hid (T6.length ≤ 60) := by show _ ≤ _; have := X.len; have := L5.out; omega
      have X6 := Lib.hid X
      have SH : Hid (getT T6 sh = some ⟨8, ByteArray.empty, sort2 x y⟩) := S
      have Fsh : Hid (Fit sh) := by have := (In.of SH.out).range; have := L6.out; exact ⟨by omega, by omega⟩
      clear p e1 ht hf S X HT5 HB5
      have key := shaken_any e0 sh w6 HT6.out Fe0.out Fsh.out
      go_wp2_with fail
      refine key.mono ?_
      clear key
      rintro e w7 p
      obtain ⟨r, S1, S2, X⟩ := shaken_spec (T := T6) (e := e0) (s := sh) HT6.out.1 (by have := L6.out; omega) (DE.out.ext X6.out).in_ (In.of SH.out)
      obtain ⟨⟨T7, s⟩, e1⟩ : ∃ r, shakenT T6 e0 sh = r := ⟨_, rfl⟩
      obtain ⟨rfl, ht, hf⟩ := p.intro e1
      rw [e1] at S1 S2 X
      simp only at S1 S2 X
      have HT7 := Lib.hid ht
      have HB7 := Lib.hid (HB6.out.trans (hf.below HB6.out.size))
      have L7 : Hid (T7.length ≤ 64) := by show _ ≤ _; have := X.len; have := L6.out; omega
      have X7 := Lib.hid X
      have GR : Hid (getT T7 r = some ⟨3, ByteArray.empty, [e0, sh]⟩) := S1
      have DS : Hid (Der0 T7 s r lbHandshake) := S2
      have Fs : Hid (Fit s) := by have := DS.out.in_.range; have := L7.out; exact ⟨by omega, by omega⟩
      clear p e1 ht hf S1 S2 X HT6 HB6
      have key := main_any s w7 HT7.out Fs.out
      go_wp2_with fail
      refine key.mono ?_
      clear key
      rintro e w8 p
      obtain ⟨S1, X⟩ := der_zero (T := T7) (s := s) (l := lbMain) HT7.out.1 (by decide) (by have := L7.out; omega) DS.out.in_
      obtain ⟨⟨T8, m⟩, e1⟩ : ∃ r, deriveT T7 s lbMain 0 = r := ⟨_, rfl⟩
      obtain ⟨rfl, ht, hf⟩ := p.intro e1
      rw [e1] at S1 X
      simp only at S1 X
      have HT8 := Lib.hid ht
      have HB8 := Lib.hid (HB7.out.trans (hf.below HB7.out.size))
      have L8 : Hid (T8.length ≤ 67) := by show _ ≤ _; have := X.len; have := L7.out; omega
      have X8 := Lib.hid X
      have DM : Hid (Der0 T8 m s lbMain) := S1
      have Fm : Hid (Fit m) := by have := DM.out.in_.range; have := L8.out; exact ⟨by omega, by omega⟩
      clear p e1 ht hf S1 X HT7 HB7
      have key := shakenTraffic_any s tr w8 HT8.out Fs.out FT.out
      go_wp2_with fail
      refine key.mono ?_
      clear key
      rintro e w9 p
      obtain ⟨S1, S2, X⟩ := pair_spec (T := T8) (s := s) (tr := tr) (l1 := lbClientHs) (l2 := lbServerHs) HT8.out.1 (by decide) (by decide) (by have := L8.out; omega) (DS.out.ext X8.out).in_ (IX.out.ext (X1.out.trans (X2.out.trans (X3.out.trans (X4.out.trans (X5.out.trans (X6.out.trans (X7.out.trans X8.out))))))))
      obtain ⟨⟨T9, c1, s1⟩, e1⟩ : ∃ r, pairT T8 lbClientHs lbServerHs s tr = r := ⟨_, rfl⟩
      obtain ⟨rfl, ht, hf⟩ := p.intro e1
      rw [e1] at S1 S2 X
      simp only at S1 S2 X
      have HT9 := Lib.hid ht
      have HB9 := Lib.hid (HB8.out.trans (hf.below HB8.out.size))
      have L9 : Hid (T9.length ≤ 73) := by show _ ≤ _; have := X.len; have := L8.out; omega
      have X9 := Lib.hid X
      have DC1 : Hid (DerAt T9 c1 s lbClientHs tr) := S1
      have DS1 : Hid (DerAt T9 s1 s lbServerHs tr) := S2
      have Fc1 : Hid (Fit c1) := by have := DC1.out.in_.range; have := L9.out; exact ⟨by omega, by omega⟩
      have Fs1 : Hid (Fit s1) := by have := DS1.out.in_.range; have := L9.out; exact ⟨by omega, by omega⟩
      clear p e1 ht hf S1 S2 X HT8 HB8
      have key := mainTraffic_any m tr w9 HT9.out Fm.out FT.out
      go_wp2_with fail
      refine key.mono ?_
      clear key
      rintro e w10 p
      obtain ⟨S1, S2, X⟩ := pair_spec (T := T9) (s := m) (tr := tr) (l1 := lbClientApp) (l2 := lbServerApp) HT9.out.1 (by decide) (by decide) (by have := L9.out; omega) (DM.out.ext X9.out).in_ (IX.out.ext (X1.out.trans (X2.out.trans (X3.out.trans (X4.out.trans (X5.out.trans (X6.out.trans (X7.out.trans (X8.out.trans X9.out)))))))))
      obtain ⟨⟨T10, c2, s2⟩, e1⟩ : ∃ r, pairT T9 lbClientApp lbServerApp m tr = r := ⟨_, rfl⟩
      obtain ⟨rfl, ht, hf⟩ := p.intro e1
      rw [e1] at S1 S2 X
      simp only at S1 S2 X
      have HT10 := Lib.hid ht
      have HB10 := Lib.hid (HB9.out.trans (hf.below HB9.out.size))
      have L10 : Hid (T10.length ≤ 79) := by show _ ≤ _; have := X.len; have := L9.out; omega
      have X10 := Lib.hid X
      have DC2 : Hid (DerAt T10 c2 m lbClientApp tr) := S1
      have DS2 : Hid (DerAt T10 s2 m lbServerApp tr) := S2
      have Fc2 : Hid (Fit c2) := by have := DC2.out.in_.range; have := L10.out; exact ⟨by omega, by omega⟩
      have Fs2 : Hid (Fit s2) := by have := DS2.out.in_.range; have := L10.out; exact ⟨by omega, by omega⟩
      clear p e1 ht hf S1 S2 X HT9 HB9
      have key := first_any A0 n0 c0 gs w10 HT10.out (HG.out.below HB10.out) (by have := L10.out; omega)
      go_wp2_with fail
      refine key.mono ?_
      clear key
      rintro e w11 p
      obtain ⟨gx, S1, S2, S3, X⟩ := first_spec (T := T10) (g := strOfNums gs) HT10.out.1 (by rw [strOfNums_size]; have := HGL.out; omega) (by have := L10.out; omega)
      obtain ⟨⟨T11, a, b⟩, e1⟩ : ∃ r, firstT T10 (strOfNums gs) = r := ⟨_, rfl⟩
      obtain ⟨rfl, ht, hf⟩ := p.intro e1
      rw [e1] at S1 S2 S3 X
      simp only at S1 S2 S3 X
      have HT11 := Lib.hid ht
      have HB11 := Lib.hid (HB10.out.trans (hf.below HB10.out.size))
      have L11 : Hid (T11.length ≤ 86) := by show _ ≤ _; have := X.len; have := L10.out; omega
      have X11 := Lib.hid X
      have SG : Hid (getT T11 gx = some (nT (strOfNums gs))) := S1
      have DA : Hid (Der0 T11 a gx lbClientIn) := S2
      have DB : Hid (Der0 T11 b gx lbServerIn) := S3
      have Fa : Hid (Fit a) := by have := DA.out.in_.range; have := L11.out; exact ⟨by omega, by omega⟩
      have Fb : Hid (Fit b) := by have := DB.out.in_.range; have := L11.out; exact ⟨by omega, by omega⟩
      clear p e1 ht hf S1 S2 S3 X HT10 HB10
      have key := finished_any c1 tr w11 HT11.out Fc1.out FT.out (by have := L11.out; omega)
      go_wp2_with fail
      refine key.mono ?_
      clear key
      rintro e w12 p
      obtain ⟨d1, S1, S2, X⟩ := mac_spec (T := T11) (k := c1) (tr := tr) (l := lbFinished) HT11.out.1 (by decide) (by have := L11.out; omega) (DC1.out.ext (X10.out.trans X11.out)).in_ (IX.out.ext (X1.out.trans (X2.out.trans (X3.out.trans (X4.out.trans (X5.out.trans (X6.out.trans (X7.out.trans (X8.out.trans (X9.out.trans (X10.out.trans X11.out)))))))))))
      obtain ⟨⟨T12, f1⟩, e1⟩ : ∃ r, macT T11 lbFinished c1 tr = r := ⟨_, rfl⟩
      obtain ⟨rfl, ht, hf⟩ := p.intro e1
      rw [e1] at S1 S2 X
      simp only at S1 S2 X
      have HT12 := Lib.hid ht
      have HB12 := Lib.hid (HB11.out.trans (hf.below HB11.out.size))
      have L12 : Hid (T12.length ≤ 90) := by show _ ≤ _; have := X.len; have := L11.out; omega
      have X12 := Lib.hid X
      have DF1 : Hid (Der0 T12 d1 c1 lbFinished) := S1
      have GF1 : Hid (getT T12 f1 = some ⟨5, ByteArray.empty, [d1, tr]⟩) := S2
      have Ff1 : Hid (Fit f1) := by have := (In.of GF1.out).range; have := L12.out; exact ⟨by omega, by omega⟩
      clear p e1 ht hf S1 S2 X HT11 HB11
      have key := finished_any s1 tr w12 HT12.out Fs1.out FT.out (by have := L12.out; omega)
      go_wp2_with fail
      refine key.mono ?_
      clear key
      rintro e w13 p
      obtain ⟨d2, S1, S2, X⟩ := mac_spec (T := T12) (k := s1) (tr := tr) (l := lbFinished) HT12.out.1 (by decide) (by have := L12.out; omega) (DS1.out.ext (X10.out.trans (X11.out.trans X12.out))).in_ (IX.out.ext (X1.out.trans (X2.out.trans (X3.out.trans (X4.out.trans (X5.out.trans (X6.out.trans (X7.out.trans (X8.out.trans (X9.out.trans (X10.out.trans (X11.out.trans X12.out))))))))))))
      obtain ⟨⟨T13, f2⟩, e1⟩ : ∃ r, macT T12 lbFinished s1 tr = r := ⟨_, rfl⟩
      obtain ⟨rfl, ht, hf⟩ := p.intro e1
      rw [e1] at S1 S2 X
      simp only at S1 S2 X
      have HT13 := Lib.hid ht
      have HB13 := Lib.hid (HB12.out.trans (hf.below HB12.out.size))
      have L13 : Hid (T13.length ≤ 94) := by show _ ≤ _; have := X.len; have := L12.out; omega
      have X13 := Lib.hid X
      have DF2 : Hid (Der0 T13 d2 s1 lbFinished) := S1
      have GF2 : Hid (getT T13 f2 = some ⟨5, ByteArray.empty, [d2, tr]⟩) := S2
      have Ff2 : Hid (Fit f2) := by have := (In.of GF2.out).range; have := L13.out; exact ⟨by omega, by omega⟩
      clear p e1 ht hf S1 S2 X HT12 HB12
      cases knows
      case false =>
        have HTN := HT13
        have HBN := HB13
        have hsN := HBN.out.size
        have hb5 : Below w13.heap.size w13 (w13.alloc (.cells #[.int .i64 pk, .int .i64 qk, .int .i64 tr, .int .i64 f1, .int .i64 f2] 32)) := below_new _
        have HO5 : Hid (OwnI (w13.alloc (.cells #[.int .i64 pk, .int .i64 qk, .int .i64 tr, .int .i64 f1, .int .i64 f2] 32)) w13.heap.size .i64 (.slice (some ⟨w13.heap.size, 0, none⟩) 5 5) [pk, qk, tr, f1, f2]) := OwnI.fresh (w := w13) (k := .i64) (xs := [pk, qk, tr, f1, f2]) (Nat.le_refl _) sp_term (by simp)
        have HB5 := Lib.hid hb5
        clear hb5
        obtain ⟨wb, hwb⟩ : ∃ wb, wb = w13.alloc (.cells #[.int .i64 pk, .int .i64 qk, .int .i64 tr, .int .i64 f1, .int .i64 f2] 32) := ⟨_, rfl⟩
        have HBb : Hid (Below w13.heap.size w13 wb) := by rw [hwb]; exact HB5.out
        obtain ⟨bl, hbl⟩ : ∃ bl, bl = [pk, qk, tr, f1, f2] := ⟨_, rfl⟩
        have hbl5 : bl.length = 5 := by rw [hbl]; rfl
        have HOb : Hid (OwnI wb w13.heap.size .i64 (.slice (some ⟨w13.heap.size, 0, none⟩) bl.length 5) bl) := by rw [hbl5, hwb, hbl]; exact HO5.out
        have hbl6 : bl.length ≤ 6 := by omega
        have HBL := Lib.hid hbl
        clear hbl HO5 HB5
        have HTb := Lib.hid (HTN.out.below HBb.out)
        have HB6 := Lib.hid (HBN.out.trans (HBb.out.mono hsN))
        have key := resume_any m tr wb HTb.out Fm.out FT.out
        go_wp2_with fail
        rw [← hwb]
        clear hwb
        refine key.mono ?_
        clear key
        rintro e wr1 pp
        obtain ⟨S1, X⟩ := behind_spec (T := T13) (s := m) (tr := tr) (l := lbResume) HTb.out.1 (by decide) (by have := L13.out; omega) (DM.out.ext (X9.out.trans (X10.out.trans (X11.out.trans (X12.out.trans X13.out))))).in_ (IX.out.ext (X1.out.trans (X2.out.trans (X3.out.trans (X4.out.trans (X5.out.trans (X6.out.trans (X7.out.trans (X8.out.trans (X9.out.trans (X10.out.trans (X11.out.trans (X12.out.trans X13.out)))))))))))))
        obtain ⟨⟨TR, re⟩, e1⟩ : ∃ r, behindT T13 lbResume m tr = r := ⟨_, rfl⟩
        obtain ⟨rfl, ht, hf⟩ := pp.intro e1
        rw [e1] at S1 X
        simp only at S1 X
        have HT7 := Lib.hid ht
        have HB7 := Lib.hid (HB6.out.trans (hf.below HB6.out.size))
        have HO7 := Lib.hid (HOb.out.frm hf.tab_sp)
        have TX := X13
        have SEC : Sec15 TR x y pk qk tr own e0 sh r s m c1 s1 c2 s2 re d1 f1 d2 f2 := ⟨X.get ((X2.out.trans (X3.out.trans (X4.out.trans (X5.out.trans (X6.out.trans (X7.out.trans (X8.out.trans (X9.out.trans (X10.out.trans (X11.out.trans (X12.out.trans X13.out))))))))))).get SX.out), X.get ((X3.out.trans (X4.out.trans (X5.out.trans (X6.out.trans (X7.out.trans (X8.out.trans (X9.out.trans (X10.out.trans (X11.out.trans (X12.out.trans X13.out)))))))))).get SY.out), X.get ((X4.out.trans (X5.out.trans (X6.out.trans (X7.out.trans (X8.out.trans (X9.out.trans (X10.out.trans (X11.out.trans (X12.out.trans X13.out))))))))).get SP.out), X.get ((X5.out.trans (X6.out.trans (X7.out.trans (X8.out.trans (X9.out.trans (X10.out.trans (X11.out.trans (X12.out.trans X13.out)))))))).get SQ.out), (by obtain ⟨nd, g1, k1⟩ := TK.out; exact ⟨nd, X.get ((X1.out.trans (X2.out.trans (X3.out.trans (X4.out.trans (X5.out.trans (X6.out.trans (X7.out.trans (X8.out.trans (X9.out.trans (X10.out.trans (X11.out.trans (X12.out.trans X13.out)))))))))))).get g1), k1⟩), ⟨_, X.get ((X6.out.trans (X7.out.trans (X8.out.trans (X9.out.trans (X10.out.trans (X11.out.trans (X12.out.trans X13.out))))))).get SN.out)⟩, ⟨_, (DE.out.ext (X6.out.trans (X7.out.trans (X8.out.trans (X9.out.trans (X10.out.trans (X11.out.trans (X12.out.trans X13.out)))))))).ext X⟩, X.get ((X7.out.trans (X8.out.trans (X9.out.trans (X10.out.trans (X11.out.trans (X12.out.trans X13.out)))))).get SH.out), X.get ((X8.out.trans (X9.out.trans (X10.out.trans (X11.out.trans (X12.out.trans X13.out))))).get GR.out), ⟨_, (DS.out.ext (X8.out.trans (X9.out.trans (X10.out.trans (X11.out.trans (X12.out.trans X13.out)))))).ext X⟩, ⟨_, (DM.out.ext (X9.out.trans (X10.out.trans (X11.out.trans (X12.out.trans X13.out))))).ext X⟩, ⟨_, (DC1.out.ext (X10.out.trans (X11.out.trans (X12.out.trans X13.out)))).ext X⟩, ⟨_, (DS1.out.ext (X10.out.trans (X11.out.trans (X12.out.trans X13.out)))).ext X⟩, ⟨_, (DC2.out.ext (X11.out.trans (X12.out.trans X13.out))).ext X⟩, ⟨_, (DS2.out.ext (X11.out.trans (X12.out.trans X13.out))).ext X⟩, ⟨_, S1⟩, ⟨_, (DF1.out.ext X13.out).ext X⟩, X.get (X13.out.get GF1.out), ⟨_, DF2.out.ext X⟩, X.get GF2.out⟩
        have KA : Hid (knB TR (inT TR []) false a = true) := first_can ((DA.out.ext (X12.out.trans X13.out)).ext X) (X.get ((X12.out.trans X13.out).get SG.out))
        have KB : Hid (knB TR (inT TR []) false b = true) := first_can ((DB.out.ext (X12.out.trans X13.out)).ext X) (X.get ((X12.out.trans X13.out).get SG.out))
        obtain ⟨zs, hzs⟩ : ∃ zs, zs = [s, m, c1, s1, c2, s2, re] := ⟨_, rfl⟩
        have KZ : Hid (∀ z ∈ zs, knB TR (inT TR bl) false z = false) := fun z hz => by rw [hzs] at hz; rw [HBL.out]; exact SEC.no z hz
        have HFit : Hid (∀ z ∈ zs, z ≤ 9223372036854775807) := fun z hz => by
          rw [hzs] at hz
          have ln := ht.1.len
          have gz : ∃ n, getT TR z = some n := by
            have key := SEC.bad z (by unfold badL; simp only [List.mem_cons, List.not_mem_nil, or_false] at hz ⊢; rcases hz with h | h | h | h | h | h | h <;> simp [h])
            obtain ⟨n, hn, -⟩ := key
            exact ⟨n, hn⟩
          obtain ⟨n, hn⟩ := gz
          have := getT_range hn
          omega
        have hz7 : zs.length = 7 := by rw [hzs]; rfl
        obtain ⟨W, hW⟩ : ∃ W, W = wr1.alloc (.cells #[.int .i64 s, .int .i64 m, .int .i64 c1, .int .i64 s1, .int .i64 c2, .int .i64 s2, .int .i64 re] 32) := ⟨_, rfl⟩
        have hbW : Below wr1.heap.size wr1 W := by rw [hW]; exact below_new _
        have HZS : Hid (OwnI W 0 .i64 (.slice (some ⟨wr1.heap.size, 0, none⟩) 7 7) zs) := by
          have hh := OwnI.fresh (w := wr1) (B := 0) (k := .i64) (xs := [s, m, c1, s1, c2, s2, re]) (Nat.zero_le _) sp_term (by simp)
          rw [hW, hzs]; exact hh
        have HT8 := Lib.hid (HT7.out.below hbW)
        have HB8 := Lib.hid (below_next HB7.out HB7.out.size hbW)
        have HO8 := Lib.hid (HO7.out.below hbW)
        clear pp e1 ht hf S1 X SEC hzs hbW
        go_wp2_with fail
        rw [← hW]
        clear hW
        go_loopw [24] (fun v wr => ∃ (k : Nat), k ≤ 7 ∧ v = .int .i64 k ∧ Hid (Below W.heap.size W wr)) (fun v _ => 7 - (intOf v).toNat)
        case atStart => exact ⟨0, Nat.zero_le _, rfl, Below.refl _ _⟩
        case round =>
          obtain ⟨k, hk, rfl, HBL2⟩ := hrel
          have HTr := Lib.hid (HT8.out.below HBL2.out)
          have HBr := Lib.hid (below_next HB8.out HB8.out.size HBL2.out)
          by_cases hlt : k < 7
          · have hor := HO8.out.below HBL2.out
            obtain ⟨bz, oz, ez, hcz⟩ := RdI.at_ ((HZS.out.below HBL2.out).rds (B' := 0)).cell (by omega)
            cases ez
            have z0 := hcz k (by omega)
            rw [Nat.zero_add] at z0
            have hkz : k < zs.length := by omega
            obtain ⟨z, hz⟩ : ∃ z, z = nth zs k := ⟨_, rfl⟩
            rw [← hz] at z0
            have hzm : z ∈ zs := by rw [hz]; exact nth_mem hkz
            have key := kcan_any (tp := some ⟨tb, 0, none⟩) bl (some ⟨w13.heap.size, 0, none⟩) 5 z (HFit.out z hzm) wr (.inr ⟨tb, rfl, HTr.out⟩) HBr.out.size (hor.rds (B' := 0)) (by omega)
            rw [KZ.out z hzm] at key
            have hk7 : (k : Int) < 7 := by omega
            clear hor hcz hz hzm hkz
            rw [hbl5] at key
            go_wp2_with fail
            refine key.mono ?_
            clear key
            rintro e wk ⟨rfl, hbk⟩
            have HBk := Lib.hid (below_next HBL2.out HBL2.out.size hbk)
            clear hbk HTr HBr z0
            go_wp2_with fail
            go_roundw
            case rel => exact ⟨k + 1, by omega, by go_num, HBk⟩
            case measure => simp [intOf]; omega
          · obtain rfl : k = 7 := by omega
            have hTR := HTr.out.1.len
            have ka := kcan_any (tp := some ⟨tb, 0, none⟩) [] none 0 a (by have := Fa.out.2; omega) wr (.inr ⟨tb, rfl, HTr.out⟩) HBr.out.size (Rds.nil _ _ _) (by simp)
            rw [KA.out] at ka
            go_wp2_with fail
            refine ka.mono ?_
            clear ka
            rintro e wk ⟨rfl, hbk⟩
            have HTk := Lib.hid (HTr.out.below hbk)
            have HBk := Lib.hid (HBr.out.trans (hbk.mono HBr.out.size))
            have kb := kcan_any (tp := some ⟨tb, 0, none⟩) [] none 0 b (by have := Fb.out.2; omega) wk (.inr ⟨tb, rfl, HTk.out⟩) HBk.out.size (Rds.nil _ _ _) (by simp)
            rw [KB.out] at kb
            clear hbk
            go_wp2_with fail
            refine kb.mono ?_
            clear kb
            rintro e wl ⟨rfl, hbl9⟩
            have HBl := Lib.hid (HBk.out.trans (hbl9.mono HBk.out.size))
            go_wp2_with fail
            refine (awake15_any wl).mono ?_
            rintro e wz ⟨rfl, hbz⟩
            have HBz := Lib.hid (below_next HBl.out HBl.out.size hbz)
            clear hbz
            go_wp2_with fail
            go_ret
            exact ⟨rfl, HBz.out⟩
      case true =>
        have HTN := HT13
        have HBN := HB13
        have hsN := HBN.out.size
        have hb5 : Below w13.heap.size w13 (w13.alloc (.cells #[.int .i64 pk, .int .i64 qk, .int .i64 tr, .int .i64 f1, .int .i64 f2] 32)) := below_new _
        have HO5 : Hid (OwnI (w13.alloc (.cells #[.int .i64 pk, .int .i64 qk, .int .i64 tr, .int .i64 f1, .int .i64 f2] 32)) w13.heap.size .i64 (.slice (some ⟨w13.heap.size, 0, none⟩) 5 5) [pk, qk, tr, f1, f2]) := OwnI.fresh (w := w13) (k := .i64) (xs := [pk, qk, tr, f1, f2]) (Nat.le_refl _) sp_term (by simp)
        have HB5 := Lib.hid hb5
        clear hb5
        have HR1 : Hid (RdI ((w13.alloc (.cells #[.int .i64 pk, .int .i64 qk, .int .i64 tr, .int .i64 f1, .int .i64 f2] 32)).alloc (.cells #[.int .i64 x] 32)) .i64 (some ⟨w13.heap.size + 1, 0, none⟩) [x]) := RdI.one_at _ .i64 _ _ (by simp)
        have HO6 : Hid (OwnI ((w13.alloc (.cells #[.int .i64 pk, .int .i64 qk, .int .i64 tr, .int .i64 f1, .int .i64 f2] 32)).alloc (.cells #[.int .i64 x] 32)) w13.heap.size .i64 (.slice (some ⟨w13.heap.size, 0, none⟩) 5 5) [pk, qk, tr, f1, f2]) := HO5.out.below (below_new _)
        have hs6 : w13.heap.size ≤ ((w13.alloc (.cells #[.int .i64 pk, .int .i64 qk, .int .i64 tr, .int .i64 f1, .int .i64 f2] 32)).alloc (.cells #[.int .i64 x] 32)).heap.size := by simp; omega
        go_wp2_with (at_builtin; refine wp_app_term (ys := [x]) rfl _ _ rfl rfl rfl HO6.out HR1.out rfl hs6 (by simp) ?_)
        intro vb wb ho hg hb
        have HBb : Hid (Below w13.heap.size w13 wb) := (HB5.out.alloc (by simp) _).trans hb
        have HOb : Hid (OwnI wb w13.heap.size .i64 vb [pk, qk, tr, f1, f2, x]) := ho
        clear ho hg hb HO5 HB5 HO6 HR1 hs6
        obtain ⟨Ab, cb, eb⟩ := HOb.out.slice
        subst eb
        have hcb := (HOb.out.rds (B' := 0)).cap
        obtain ⟨bl, hbl⟩ : ∃ bl, bl = [pk, qk, tr, f1, f2, x] := ⟨_, rfl⟩
        rw [← hbl] at HOb hcb ⊢
        have hbl6 : bl.length ≤ 6 := by rw [hbl]; simp
        have HBL := Lib.hid hbl
        clear hbl
        have HTb := Lib.hid (HTN.out.below HBb.out)
        have HB6 := Lib.hid (HBN.out.trans (HBb.out.mono hsN))
        have key := resume_any m tr wb HTb.out Fm.out FT.out
        go_wp2_with fail
        refine key.mono ?_
        clear key
        rintro e wr1 pp
        obtain ⟨S1, X⟩ := behind_spec (T := T13) (s := m) (tr := tr) (l := lbResume) HTb.out.1 (by decide) (by have := L13.out; omega) (DM.out.ext (X9.out.trans (X10.out.trans (X11.out.trans (X12.out.trans X13.out))))).in_ (IX.out.ext (X1.out.trans (X2.out.trans (X3.out.trans (X4.out.trans (X5.out.trans (X6.out.trans (X7.out.trans (X8.out.trans (X9.out.trans (X10.out.trans (X11.out.trans (X12.out.trans X13.out)))))))))))))
        obtain ⟨⟨TR, re⟩, e1⟩ : ∃ r, behindT T13 lbResume m tr = r := ⟨_, rfl⟩
        obtain ⟨rfl, ht, hf⟩ := pp.intro e1
        rw [e1] at S1 X
        simp only at S1 X
        have HT7 := Lib.hid ht
        have HB7 := Lib.hid (HB6.out.trans (hf.below HB6.out.size))
        have HO7 := Lib.hid (HOb.out.frm hf.tab_sp)
        have TX := X13
        have SEC : Sec15 TR x y pk qk tr own e0 sh r s m c1 s1 c2 s2 re d1 f1 d2 f2 := ⟨X.get ((X2.out.trans (X3.out.trans (X4.out.trans (X5.out.trans (X6.out.trans (X7.out.trans (X8.out.trans (X9.out.trans (X10.out.trans (X11.out.trans (X12.out.trans X13.out))))))))))).get SX.out), X.get ((X3.out.trans (X4.out.trans (X5.out.trans (X6.out.trans (X7.out.trans (X8.out.trans (X9.out.trans (X10.out.trans (X11.out.trans (X12.out.trans X13.out)))))))))).get SY.out), X.get ((X4.out.trans (X5.out.trans (X6.out.trans (X7.out.trans (X8.out.trans (X9.out.trans (X10.out.trans (X11.out.trans (X12.out.trans X13.out))))))))).get SP.out), X.get ((X5.out.trans (X6.out.trans (X7.out.trans (X8.out.trans (X9.out.trans (X10.out.trans (X11.out.trans (X12.out.trans X13.out)))))))).get SQ.out), (by obtain ⟨nd, g1, k1⟩ := TK.out; exact ⟨nd, X.get ((X1.out.trans (X2.out.trans (X3.out.trans (X4.out.trans (X5.out.trans (X6.out.trans (X7.out.trans (X8.out.trans (X9.out.trans (X10.out.trans (X11.out.trans (X12.out.trans X13.out)))))))))))).get g1), k1⟩), ⟨_, X.get ((X6.out.trans (X7.out.trans (X8.out.trans (X9.out.trans (X10.out.trans (X11.out.trans (X12.out.trans X13.out))))))).get SN.out)⟩, ⟨_, (DE.out.ext (X6.out.trans (X7.out.trans (X8.out.trans (X9.out.trans (X10.out.trans (X11.out.trans (X12.out.trans X13.out)))))))).ext X⟩, X.get ((X7.out.trans (X8.out.trans (X9.out.trans (X10.out.trans (X11.out.trans (X12.out.trans X13.out)))))).get SH.out), X.get ((X8.out.trans (X9.out.trans (X10.out.trans (X11.out.trans (X12.out.trans X13.out))))).get GR.out), ⟨_, (DS.out.ext (X8.out.trans (X9.out.trans (X10.out.trans (X11.out.trans (X12.out.trans X13.out)))))).ext X⟩, ⟨_, (DM.out.ext (X9.out.trans (X10.out.trans (X11.out.trans (X12.out.trans X13.out))))).ext X⟩, ⟨_, (DC1.out.ext (X10.out.trans (X11.out.trans (X12.out.trans X13.out)))).ext X⟩, ⟨_, (DS1.out.ext (X10.out.trans (X11.out.trans (X12.out.trans X13.out)))).ext X⟩, ⟨_, (DC2.out.ext (X11.out.trans (X12.out.trans X13.out))).ext X⟩, ⟨_, (DS2.out.ext (X11.out.trans (X12.out.trans X13.out))).ext X⟩, ⟨_, S1⟩, ⟨_, (DF1.out.ext X13.out).ext X⟩, X.get (X13.out.get GF1.out), ⟨_, DF2.out.ext X⟩, X.get GF2.out⟩
        have KA : Hid (knB TR (inT TR []) false a = true) := first_can ((DA.out.ext (X12.out.trans X13.out)).ext X) (X.get ((X12.out.trans X13.out).get SG.out))
        have KB : Hid (knB TR (inT TR []) false b = true) := first_can ((DB.out.ext (X12.out.trans X13.out)).ext X) (X.get ((X12.out.trans X13.out).get SG.out))
        obtain ⟨zs, hzs⟩ : ∃ zs, zs = [s, m, c1, s1, c2, s2, re] := ⟨_, rfl⟩
        have KZ : Hid (∀ z ∈ zs, knB TR (inT TR bl) false z = true) := fun z hz => by rw [hzs] at hz; rw [HBL.out]; exact SEC.yes z hz
        have HFit : Hid (∀ z ∈ zs, z ≤ 9223372036854775807) := fun z hz => by
          rw [hzs] at hz
          have ln := ht.1.len
          have gz : ∃ n, getT TR z = some n := by
            have key := SEC.bad z (by unfold badL; simp only [List.mem_cons, List.not_mem_nil, or_false] at hz ⊢; rcases hz with h | h | h | h | h | h | h <;> simp [h])
            obtain ⟨n, hn, -⟩ := key
            exact ⟨n, hn⟩
          obtain ⟨n, hn⟩ := gz
          have := getT_range hn
          omega
        have hz7 : zs.length = 7 := by rw [hzs]; rfl
        obtain ⟨W, hW⟩ : ∃ W, W = wr1.alloc (.cells #[.int .i64 s, .int .i64 m, .int .i64 c1, .int .i64 s1, .int .i64 c2, .int .i64 s2, .int .i64 re] 32) := ⟨_, rfl⟩
        have hbW : Below wr1.heap.size wr1 W := by rw [hW]; exact below_new _
        have HZS : Hid (OwnI W 0 .i64 (.slice (some ⟨wr1.heap.size, 0, none⟩) 7 7) zs) := by
          have hh := OwnI.fresh (w := wr1) (B := 0) (k := .i64) (xs := [s, m, c1, s1, c2, s2, re]) (Nat.zero_le _) sp_term (by simp)
          rw [hW, hzs]; exact hh
        have HT8 := Lib.hid (HT7.out.below hbW)
        have HB8 := Lib.hid (below_next HB7.out HB7.out.size hbW)
        have HO8 := Lib.hid (HO7.out.below hbW)
        clear pp e1 ht hf S1 X SEC hzs hbW
        go_wp2_with fail
        rw [← hW]
        clear hW
        go_loopw [24] (fun v wr => ∃ (k : Nat), k ≤ 7 ∧ v = .int .i64 k ∧ Hid (Below W.heap.size W wr)) (fun v _ => 7 - (intOf v).toNat)
        case atStart => exact ⟨0, Nat.zero_le _, rfl, Below.refl _ _⟩
        case round =>
          obtain ⟨k, hk, rfl, HBL2⟩ := hrel
          have HTr := Lib.hid (HT8.out.below HBL2.out)
          have HBr := Lib.hid (below_next HB8.out HB8.out.size HBL2.out)
          by_cases hlt : k < 7
          · have hor := HO8.out.below HBL2.out
            obtain ⟨bz, oz, ez, hcz⟩ := RdI.at_ ((HZS.out.below HBL2.out).rds (B' := 0)).cell (by omega)
            cases ez
            have z0 := hcz k (by omega)
            rw [Nat.zero_add] at z0
            have hkz : k < zs.length := by omega
            obtain ⟨z, hz⟩ : ∃ z, z = nth zs k := ⟨_, rfl⟩
            rw [← hz] at z0
            have hzm : z ∈ zs := by rw [hz]; exact nth_mem hkz
            have key := kcan_any (tp := some ⟨tb, 0, none⟩) bl Ab cb z (HFit.out z hzm) wr (.inr ⟨tb, rfl, HTr.out⟩) HBr.out.size (hor.rds (B' := 0)) (by omega)
            rw [KZ.out z hzm] at key
            have hk7 : (k : Int) < 7 := by omega
            clear hor hcz hz hzm hkz
            have hzz := hk7
            go_wp2_with fail
            refine key.mono ?_
            clear key
            rintro e wk ⟨rfl, hbk⟩
            have HBk := Lib.hid (below_next HBL2.out HBL2.out.size hbk)
            clear hbk HTr HBr z0
            go_wp2_with fail
            go_roundw
            case rel => exact ⟨k + 1, by omega, by go_num, HBk⟩
            case measure => simp [intOf]; omega
          · obtain rfl : k = 7 := by omega
            have hTR := HTr.out.1.len
            have ka := kcan_any (tp := some ⟨tb, 0, none⟩) [] none 0 a (by have := Fa.out.2; omega) wr (.inr ⟨tb, rfl, HTr.out⟩) HBr.out.size (Rds.nil _ _ _) (by simp)
            rw [KA.out] at ka
            go_wp2_with fail
            refine ka.mono ?_
            clear ka
            rintro e wk ⟨rfl, hbk⟩
            have HTk := Lib.hid (HTr.out.below hbk)
            have HBk := Lib.hid (HBr.out.trans (hbk.mono HBr.out.size))
            have kb := kcan_any (tp := some ⟨tb, 0, none⟩) [] none 0 b (by have := Fb.out.2; omega) wk (.inr ⟨tb, rfl, HTk.out⟩) HBk.out.size (Rds.nil _ _ _) (by simp)
            rw [KB.out] at kb
            clear hbk
            go_wp2_with fail
            refine kb.mono ?_
            clear kb
            rintro e wl ⟨rfl, hbl9⟩
            have HBl := Lib.hid (HBk.out.trans (hbl9.mono HBk.out.size))
            go_wp2_with fail
            refine (awake15_any wl).mono ?_
            rintro e wz ⟨rfl, hbz⟩
            have HBz := Lib.hid (below_next HBl.out HBl.out.size hbz)
            clear hbz
            go_wp2_with fail
            go_ret
            exact ⟨rfl, HBz.out⟩
theorem secrets15_row {A0 A1 : Option Addr} {n0 c0 n1 c1 : Nat} (w : World) (h0 : ∃ xs, Rds w.heap.size w .u8 A0 n0 c0 xs ∧ Byt xs) (h1 : ∃ L, RdRows w.heap.size w A1 n1 L ∧ ∀ xs ∈ L, Byt xs) (knows : Bool) :
    Calls Try.prog 5 #[.slice A0 n0 c0, .slice A1 n1 c1, .bool knows] w fun e w' => e = .returned (.bool true) ∧ Below w.heap.size w w' := by
  obtain ⟨gs, h0, -⟩ := h0
  obtain ⟨L, h1, -⟩ := h1
  exact secrets15_walk w A0 n0 c0 gs h0 A1 n1 c1 L h1 knows
end Go.Proofs.Ytomopjpfdmpgpaa
