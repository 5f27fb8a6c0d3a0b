/- What told and do of the laws of layer 2 do. No condition. -/
import Derived.Test.YtoelbhmgmlnieaaPureStep
import Derived.Test.YtoelbhmgmlnieaaStepsN
import Derived.Deep.RegionHeld3
set_option linter.unusedVariables false
set_option linter.unusedSimpArgs false
namespace Go.Proofs.Ytoelbhmgmlnieaa
open Go Go.RowKit Go.WideMaps

set_option maxHeartbeats 1600000 in
set_option maxRecDepth 100000 in
theorem told_same {B0 B1 : Nat} (k : Int) (s : ByteArray) (A1 A2 : Option Addr) (n c1 c2 : Nat) (xs : List Int) (w : World) (h1 : Rds B0 w .i64 A1 n c1 xs) (h2 : Rds B1 w .i64 A2 n c2 xs) :
    Calls Try.prog 46 #[.agg #[.int .i64 k, .string s, .slice A1 n c1], .agg #[.int .i64 k, .string s, .slice A2 n c2]] w (AwakePost w) := by
  have H1 := Lib.hid h1
  have H2 := Lib.hid h2
  have Hn := Lib.hid h1.len
  have hm : n ≤ 9223372036854775807 := Nat.le_trans h1.cap h1.max
  clear h1 h2
  have e3' : (k != k) = false := by simp
  have e4' : (s.toList != s.toList) = false := by simp
  have e5' : ((n : Int) != (n : Int)) = false := by simp
  go_enter Try.func46, Try.ntmps46
  go_wp2_with fail
  obtain ⟨W, hW⟩ : ∃ W, W = (w.alloc (.cells #[.int .i64 k, .string s, .slice A1 n c1] 84)).alloc (.cells #[.int .i64 k, .string s, .slice A2 n c2] 89) := ⟨_, rfl⟩
  have HW := Lib.hid hW
  rw [← hW]
  clear hW
  have bW : Hid (Below w.heap.size w W) := by rw [HW.out]; exact below_two _ _
  have d1 : W.cell? ⟨w.heap.size, 2, none⟩ = some (.slice A1 n c1) := by rw [HW.out]; simp [go_sem]
  have d2 : W.cell? ⟨w.heap.size + 1, 2, none⟩ = some (.slice A2 n c2) := by rw [HW.out]; simp [go_sem]
  have Hx := Lib.hid (H1.out.below bW.out).cell
  have Hy := Lib.hid (H2.out.below bW.out).cell
  clear H1 H2 HW
  go_loopw [5] (fun i wr => ∃ k : Nat, k ≤ n ∧ i = .int .i64 k ∧ ∃ q, wr = W.drewN q) (fun i _ => n - (intOf i).toNat)
  case atStart => exact ⟨0, Nat.zero_le _, rfl, 0, rfl⟩
  case round =>
    obtain ⟨k, hk, rfl, q, rfl⟩ := hrel
    by_cases hlt : k < n
    · obtain ⟨b, o, rfl, hcx⟩ := RdI.at_ Hx.out (by have := Hn.out; omega)
      obtain ⟨b', o', rfl, hcy⟩ := RdI.at_ Hy.out (by have := Hn.out; omega)
      have g1 := hcx k (by have := Hn.out; omega)
      have g2 := hcy k (by have := Hn.out; omega)
      clear hcx hcy
      have hz' : (nth xs k != nth xs k) = false := by simp
      go_wp2
      go_quiet (fail)
      go_wp2
      go_roundw
      case rel => exact ⟨k + 1, by omega, by go_num, _, rfl⟩
      case measure => simp [intOf]; omega
    · go_wp2
      go_ret
      exact ⟨rfl, below_drewN bW.out _⟩

theorem parts_any {B' : Nat} (kind : Int) (text : ByteArray) (A : Option Addr) (n c : Nat) (xs : List Int) (near : Bool) (size : Int) (w : World) (hr : Rds B' w .i64 A n c xs) (hn : n ≤ 1000000) (hx : I64 xs) (hs2 : size ≤ 70000) :
    Calls Try.prog 47 #[.agg #[.int .i64 kind, .string text, .slice A n c, .bool near], .int .i64 size] w (TermsPost (partsT near size xs) w) := by
  by_cases h : near = true ∧ 0 < size
  · obtain ⟨rfl, h2⟩ := h
    exact parts_near kind text A n c xs size w hr hn hx h2 hs2
  · exact parts_far kind text A n c xs near size w hr hn h
theorem partsT_in {near : Bool} {size : Int} {xs : List Int} (hx : I64 xs) (hs2 : size ≤ 70000) : I64 (partsT near size xs) := by
  unfold partsT
  split
  · rename_i h
    intro y hy
    obtain ⟨x, _, rfl⟩ := List.mem_map.1 hy
    unfold nearT
    have := Int.tmod_lt_of_pos (x.tmod size + size) h.2
    have := Int.lt_tmod_of_pos (x.tmod size + size) h.2
    omega
  · exact hx
theorem partsT_length {near : Bool} {size : Int} {xs : List Int} : (partsT near size xs).length = xs.length := by
  unfold partsT; split <;> simp

def DoPost (B tb rb : Nat) (w : World) (r : List Nd × Int) (e : Ending) (w' : World) : Prop := e = .returned (.tuple #[.int .i64 r.2, .int .i64 r.2]) ∧ IsTab B w' tb r.1 ∧ IsRef B w' rb r.1 ∧ Frm spO B w w'
theorem DoPost.mk {B tb rb : Nat} {w w' : World} {T : List Nd} {h : Int} {r : List Nd × Int} (hr : r = (T, h)) (h1 : IsTab B w' tb T) (h2 : IsRef B w' rb T) (h3 : Frm spO B w w') : DoPost B tb rb w r (.returned (.tuple #[.int .i64 h, .int .i64 h])) w' := by
  subst hr; exact ⟨rfl, h1, h2, h3⟩
theorem DoPost.intro {B tb rb : Nat} {w w' : World} {T : List Nd} {h : Int} {r : List Nd × Int} {e : Ending} (hr : r = (T, h)) (p : DoPost B tb rb w r e w') : e = .returned (.tuple #[.int .i64 h, .int .i64 h]) ∧ IsTab B w' tb T ∧ IsRef B w' rb T ∧ Frm spO B w w' := by
  subst hr; exact p
theorem RAddPost.intro {B tb : Nat} {w w' : World} {T : List Nd} {h : Int} {r : List Nd × Int} {e : Ending} (hr : r = (T, h)) (p : RAddPost B tb w r e w') : e = .returned (.int .i64 h) ∧ IsRef B w' tb T ∧ Frm refO B w w' := by
  subst hr; exact p

set_option maxHeartbeats 3200000 in
set_option maxRecDepth 100000 in
theorem do_text {B B' tb rb : Nat} {T : List Nd} (text : ByteArray) (A : Option Addr) (n c : Nat) (xs : List Int) (near : Bool) (w : World) (ht : IsTab B w tb T) (hr : IsRef B w rb T) (htx : text.size ≤ 1000000) :
    Calls Try.prog 43 #[.pointer (some ⟨tb, 0, none⟩), .pointer (some ⟨rb, 0, none⟩), .agg #[.int .i64 1, .string text, .slice A n c, .bool near]] w (DoPost B tb rb w (textT T text)) := by
  have HT := Lib.hid ht
  have HR := Lib.hid hr
  clear ht hr
  obtain ⟨W, hW⟩ : ∃ W, W = w.alloc (.cells #[.int .i64 1, .string text, .slice A n c, .bool near] 79) := ⟨_, rfl⟩
  have HW := Lib.hid hW
  have hbox : Hid (W.heap[w.heap.size]? = some (.cells #[.int .i64 1, .string text, .slice A n c, .bool near] 79 (0, 0))) := by rw [hW]; exact heap_alloc_new w _
  have x0 : W.cell? ⟨w.heap.size, 1, none⟩ = some (.string text) := by rw [cell_of_row W _ 1 _ _ _ hbox.out]; rfl
  have HBW : Hid (Below w.heap.size w W) := by rw [hW]; exact below_new _
  have hsW : w.heap.size < W.heap.size := by rw [hW]; simp
  obtain ⟨cc, w1, hconv, hr1, hb1⟩ := run_str_bytes W.drew text htx
  have x1 : w1.cell? ⟨w.heap.size, 1, none⟩ = some (.string text) := (Below.cell hb1 (by simpa using hsW)).trans x0
  have HR1 := Lib.hid (hr1 0)
  have HB1 : Hid (Below W.heap.size W w1) := (Below.drew (Below.refl W.heap.size W)).trans hb1
  have hbox1 : Hid (w1.heap[w.heap.size]? = some (.cells #[.int .i64 1, .string text, .slice A n c, .bool near] 79 (0, 0))) := (HB1.out.block _ hsW).trans hbox.out
  clear hr1 hb1
  go_enter Try.func43, Try.ntmps43
  go_wp2_with fail
  rw [← hW]
  clear hW
  go_region_held (fun w' => w'.cell? ⟨w.heap.size, 1, none⟩ = some (.string text)) (first | exact x1 | exact x2 | exact x3 | go_keep) ((first
    | (go_at_call 48
       refine (text_any _ _ _ _ w1 (HT.out.below (HBW.out.trans (below_next (Below.refl _ _) (Nat.le_of_lt hsW) HB1.out))) HR1.out).mono ?_
       rintro e w2 p2
       rw [str_numsL] at p2
       obtain ⟨⟨T2, h2⟩, he2⟩ : ∃ r, textT T text = r := ⟨_, rfl⟩
       obtain ⟨rfl, ht2, hf2⟩ := p2.intro he2
       have hbox2 := Lib.hid (hf2.block _ _ hbox1.out (.inr rfl))
       have x2 : w2.cell? ⟨w.heap.size, 1, none⟩ = some (.string text) := by rw [cell_of_row w2 _ 1 _ _ _ hbox2.out]; rfl
       have HT2 := Lib.hid ht2
       have HF2 := Lib.hid hf2
       have HE2 := Lib.hid he2
       clear p2 ht2 hf2 he2)
    | (go_at_call 73
       refine (text02_any text w2 ((HR.out.below (HBW.out.trans (below_next (Below.refl _ _) (Nat.le_of_lt hsW) HB1.out))).frm HF2.out (Nat.le_refl _) ref_tab tabO_sp)).mono ?_
       rintro e w3 p3
       obtain ⟨rfl, ht3, hf3⟩ := p3.intro HE2.out
       have x3 : w3.cell? ⟨w.heap.size, 1, none⟩ = some (.string text) := by rw [cell_of_row w3 _ 1 _ _ _ (hf3.block _ _ hbox2.out (.inr rfl))]; rfl
       have HR3 := Lib.hid ht3
       have HF3 := Lib.hid hf3
       clear p3 ht3 hf3)))
  all_goals
    go_wp2_with fail
    go_returns
    have HB := HBW.out.trans (below_next (Below.refl _ _) (Nat.le_of_lt hsW) HB1.out)
    exact DoPost.mk HE2.out (HT2.out.frm HF3.out (Nat.le_refl _) tab_ref refO_sp) HR3.out ((Frm.of_below HB).trans (HF2.out.tab_sp.trans (HF3.out.mono refO_sp)))

set_option maxHeartbeats 1600000 in
set_option maxRecDepth 100000 in
theorem do_secret {B B' tb rb : Nat} {T : List Nd} (text : ByteArray) (A : Option Addr) (n c : Nat) (xs : List Int) (near : Bool) (w : World) (ht : IsTab B w tb T) (hr : IsRef B w rb T) :
    Calls Try.prog 43 #[.pointer (some ⟨tb, 0, none⟩), .pointer (some ⟨rb, 0, none⟩), .agg #[.int .i64 2, .string text, .slice A n c, .bool near]] w (DoPost B tb rb w (secretT T)) := by
  have HT := Lib.hid ht
  have HR := Lib.hid hr
  clear ht hr
  have HB := Lib.hid (below_new (w := w) (.cells #[.int .i64 2, .string text, .slice A n c, .bool near] 79))
  obtain ⟨⟨T2, h2⟩, he2⟩ : ∃ r, secretT T = r := ⟨_, rfl⟩
  have HE2 := Lib.hid he2
  clear he2
  go_enter Try.func43, Try.ntmps43
  go_wp2_with fail
  refine (secret_any _ (HT.out.below HB.out)).mono ?_
  rintro e w2 p2
  obtain ⟨rfl, ht2, hf2⟩ := p2.intro HE2.out
  have HT2 := Lib.hid ht2
  have HF2 := Lib.hid hf2
  clear p2 ht2 hf2
  go_wp2_with fail
  refine (secret02_any w2 ((HR.out.below HB.out).frm HF2.out (Nat.le_refl _) ref_tab tabO_sp)).mono ?_
  rintro e w3 p3
  obtain ⟨rfl, ht3, hf3⟩ := p3.intro HE2.out
  have HR3 := Lib.hid ht3
  have HF3 := Lib.hid hf3
  clear p3 ht3 hf3
  go_wp2_with fail
  go_returns
  exact DoPost.mk HE2.out (HT2.out.frm HF3.out (Nat.le_refl _) tab_ref refO_sp) HR3.out ((Frm.of_below HB.out).trans (HF2.out.tab_sp.trans (HF3.out.mono refO_sp)))

set_option maxHeartbeats 3200000 in
set_option maxRecDepth 100000 in
theorem do_make {B B' tb rb : Nat} {T : List Nd} (kind : Int) (text : ByteArray) (A : Option Addr) (n c : Nat) (xs : List Int) (near : Bool) (w : World) (ht : IsTab B w tb T) (hr : IsRef B w rb T) (hp : Rds B' w .i64 A n c xs) (hx : I64 xs) (hn : n ≤ 100) (k1 : ¬ kind = 1) (k2 : ¬ kind = 2) :
    Calls Try.prog 43 #[.pointer (some ⟨tb, 0, none⟩), .pointer (some ⟨rb, 0, none⟩), .agg #[.int .i64 kind, .string text, .slice A n c, .bool near]] w (DoPost B tb rb w (makeT T kind (partsT near T.length xs))) := by
  have HT := Lib.hid ht
  have HR := Lib.hid hr
  have HP := Lib.hid hp
  have HX := Lib.hid hx
  have hl := Lib.hid hp.len
  have hT := ht.1.len
  clear ht hr hp hx
  obtain ⟨W, hW⟩ : ∃ W, W = w.alloc (.cells #[.int .i64 kind, .string text, .slice A n c, .bool near] 79) := ⟨_, rfl⟩
  have hbox : Hid (W.heap[w.heap.size]? = some (.cells #[.int .i64 kind, .string text, .slice A n c, .bool near] 79 (0, 0))) := by rw [hW]; exact heap_alloc_new w _
  have y0 : W.cell? ⟨w.heap.size, 0, none⟩ = some (.int .i64 kind) := by rw [cell_of_row W _ 0 _ _ _ hbox.out]; rfl
  have y1 : W.cell? ⟨w.heap.size, 1, none⟩ = some (.string text) := by rw [cell_of_row W _ 1 _ _ _ hbox.out]; rfl
  have y2 : W.cell? ⟨w.heap.size, 2, none⟩ = some (.slice A n c) := by rw [cell_of_row W _ 2 _ _ _ hbox.out]; rfl
  have y3 : W.cell? ⟨w.heap.size, 3, none⟩ = some (.bool near) := by rw [cell_of_row W _ 3 _ _ _ hbox.out]; rfl
  have HBW : Hid (Below w.heap.size w W) := by rw [hW]; exact below_new _
  have hsW : w.heap.size < W.heap.size := by rw [hW]; simp
  obtain ⟨rA, rc, r0⟩ : ∃ rA rc, W.cell? ⟨rb, 0, none⟩ = some (.slice rA T.length rc) := by
    obtain ⟨_, _, v, cs, q1, q2, _⟩ := HR.out.below HBW.out
    obtain ⟨rA, rc, rfl⟩ := owned_slice q2
    exact ⟨rA, rc, by rw [cell_of_row W _ 0 _ _ _ q1]; rfl⟩
  go_enter Try.func43, Try.ntmps43
  go_wp2_with fail
  rw [← hW]
  clear hW
  have HBW' : Below w.heap.size w W := HBW.out
  have k1' : (kind == 1) = false := by simp [k1]
  have k2' : (kind == 2) = false := by simp [k2]
  go_wp2_with fail
  have hTs : (T.length : Int) ≤ 70000 := by omega
  go_region_held3 (fun w' => w'.cell? ⟨w.heap.size, 0, none⟩ = some (.int .i64 kind) ∧ w'.cell? ⟨w.heap.size, 1, none⟩ = some (.string text) ∧ w'.cell? ⟨w.heap.size, 2, none⟩ = some (.slice A n c) ∧ w'.cell? ⟨w.heap.size, 3, none⟩ = some (.bool near) ∧ w'.cell? ⟨rb, 0, none⟩ = some (.slice rA T.length rc))
    (first | exact ⟨z0, z1, z2, z3, zr⟩ | go_keep) ((first
    | (go_at_call 47
       refine (parts_any (B' := B') kind text A n c xs near T.length _ (((HP.out.below HBW').below ((Below.refl _ _).drew))) (by omega) HX.out hTs).mono ?_
       rintro e w2 ⟨v2, rfl, hv2, hb2⟩
       have z0 := cell_later hb2 (a := ⟨w.heap.size, 0, none⟩) y0
       have z1 := cell_later hb2 (a := ⟨w.heap.size, 1, none⟩) y1
       have z2 := cell_later hb2 (a := ⟨w.heap.size, 2, none⟩) y2
       have z3 := cell_later hb2 (a := ⟨w.heap.size, 3, none⟩) y3
       have zr := cell_later hb2 (a := ⟨rb, 0, none⟩) r0
       have HB2 : Hid (Below W.heap.size W w2) := (Below.drew (Below.refl W.heap.size W)).trans hb2
       have HV2 := Lib.hid hv2
       clear hv2 hb2)))
  all_goals
    obtain ⟨A2, c2, rfl⟩ := HV2.out.slice
    have HPX := Lib.hid (partsT_in (near := near) HX.out hTs)
    have hl2 : Hid ((partsT near T.length xs).length = n) := partsT_length.trans hl.out
    have hbox2 := Lib.hid ((HB2.out.block _ hsW).trans hbox.out)
    have HB02 := Lib.hid (HBW.out.trans (below_next (Below.refl _ _) (Nat.le_of_lt hsW) HB2.out))
    have HT2 := Lib.hid (HT.out.below HB02.out)
    have HR2 := Lib.hid (HR.out.below HB02.out)
    have HF2 := Lib.hid (Frm.of_below (C := spO) (B := B) HB02.out)
    obtain ⟨⟨T4, h4⟩, he4⟩ : ∃ r, makeT T kind (partsT near T.length xs) = r := ⟨_, rfl⟩
    have HE4 := Lib.hid he4
    clear he4 y0 y1 y2 y3 r0 z1 z2 z3 zr HB2 HBW hsW HT HR HX HP HB02
    rw [hl2.out] at HV2 ⊢
    go_wp2_with fail
    go_region_held3 (fun w' => w'.cell? ⟨w.heap.size, 0, none⟩ = some (.int .i64 kind)) (first | exact x3 | exact x4 | exact x5 | go_keep) ((first
      | (go_at_call 49
         refine (terms_any (B' := 0) A2 n c2 (partsT near T.length xs) _ ((HV2.out.below ((Below.refl _ _).drew)).rds) (by omega)).mono ?_
         rintro e w3 ⟨v3, rfl, hv3, hb3⟩
         have hbox3 := Lib.hid ((hb3.block _ (by simpa using lt_of_get hbox2.out)).trans hbox2.out)
         have x3 : w3.cell? ⟨w.heap.size, 0, none⟩ = some (.int .i64 kind) := by rw [cell_of_row w3 _ 0 _ _ _ hbox3.out]; rfl
         obtain ⟨A3, c3, rfl⟩ := hv3.slice
         rw [hl2.out] at hv3 ⊢
         have HB3 : Hid (Below w2.heap.size w2 w3) := (Below.drew (Below.refl w2.heap.size w2)).trans hb3
         have HV3 := Lib.hid hv3
         clear hv3 hb3)
      | (go_at_call 41
         refine (make_any kind A3 n c3 (partsT near T.length xs) w3 (HT2.out.below HB3.out) (HV3.out.rds (B' := 0)) HPX.out (by omega)).mono ?_
         rintro e w4 p4
         obtain ⟨rfl, ht4, hf4⟩ := p4.intro HE4.out
         have hbox4 := Lib.hid (hf4.block _ _ hbox3.out (.inr rfl))
         have x4 : w4.cell? ⟨w.heap.size, 0, none⟩ = some (.int .i64 kind) := by rw [cell_of_row w4 _ 0 _ _ _ hbox4.out]; rfl
         have HT4 := Lib.hid ht4
         have HF4 := Lib.hid hf4
         clear p4 ht4 hf4)
      | (go_at_call 75
         refine (make02_any kind A2 n c2 (partsT near T.length xs) w4 ((HR2.out.below HB3.out).frm HF4.out (Nat.le_refl _) ref_tab tabO_sp) (((HV2.out.below HB3.out).frm HF4.out.tab_sp).rds (B' := 0)) HPX.out (by omega)).mono ?_
         rintro e w5 p5
         obtain ⟨rfl, ht5, hf5⟩ := p5.intro HE4.out
         have x5 : w5.cell? ⟨w.heap.size, 0, none⟩ = some (.int .i64 kind) := by rw [cell_of_row w5 _ 0 _ _ _ (hf5.block _ _ hbox4.out (.inr rfl))]; rfl
         have HR5 := Lib.hid ht5
         have HF5 := Lib.hid hf5
         clear p5 ht5 hf5)))
    all_goals
      go_wp2_with fail
      go_returns
      exact DoPost.mk HE4.out (HT4.out.frm HF5.out (Nat.le_refl _) tab_ref refO_sp) HR5.out (HF2.out.trans ((Frm.of_below HB3.out).trans (HF4.out.tab_sp.trans (HF5.out.mono refO_sp))))
theorem do_any {B B' tb rb : Nat} {T : List Nd} (kind : Int) (text : ByteArray) (A : Option Addr) (n c : Nat) (xs : List Int) (near : Bool) (w : World) (ht : IsTab B w tb T) (hr : IsRef B w rb T) (hp : Rds B' w .i64 A n c xs) (hx : I64 xs) (hn : n ≤ 100) (htx : text.size ≤ 1000000) :
    Calls Try.prog 43 #[.pointer (some ⟨tb, 0, none⟩), .pointer (some ⟨rb, 0, none⟩), .agg #[.int .i64 kind, .string text, .slice A n c, .bool near]] w (DoPost B tb rb w (stepT T kind text (partsT near T.length xs))) := by
  unfold stepT
  by_cases k1 : kind = 1
  · subst k1
    exact do_text (B' := B') text A n c xs near w ht hr htx
  rw [if_neg k1]
  by_cases k2 : kind = 2
  · subst k2
    exact do_secret (B' := B') text A n c xs near w ht hr
  rw [if_neg k2]
  exact do_make kind text A n c xs near w ht hr hp hx hn k1 k2
end Go.Proofs.Ytoelbhmgmlnieaa
