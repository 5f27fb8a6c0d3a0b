/- What do of the laws of layer 3 does. No condition. -/
import Derived.Test.YtmaedahleenlgaaPureStep
import Derived.Test.YtmaedahleenlgaaRefMake
import Derived.Test.YtmaedahleenlgaaStepsN

import Derived.Deep.RegionHeld3
import Derived.Test.YtmaedahleenlgaaAppT
set_option linter.unusedVariables false
set_option linter.unusedSimpArgs false
namespace Go.Proofs.Ytmaedahleenlgaa
open Go Go.RowKit Go.WideMaps

def stepT3 (T : List Nd) (kind : Int) (text : ByteArray) (parts : List Int) : List Nd × Int :=
  if kind = 1 then textT T text else if kind = 2 ∨ T.length = 0 then secretT T else makeT T kind (parts.map (nearT T.length))
/-- The blocks that a table and its reference's twin turn. -/
def trO (o : Obj) : Bool := tabO o || refO o
theorem tabO_tr : ∀ o, tabO o = true → trO o = true := fun o h => by unfold trO; rw [h]; rfl
theorem refO_tr : ∀ o, refO o = true → trO o = true := fun o h => by unfold trO; rw [h]; exact Bool.or_true _
theorem trO_sp : ∀ o, trO o = true → spO o = true := fun o h => by
  unfold trO at h
  rcases Bool.or_eq_true _ _ ▸ h with h | h
  · exact tabO_sp o h
  · exact refO_sp o h
def Do3Post (B tb rb : Nat) (w : World) (r : List Nd × Int) (e : Ending) (w' : World) : Prop := e = .returned (.bool true) ∧ IsTab B w' tb r.1 ∧ IsRef B w' rb r.1 ∧ Frm trO B w w'
theorem Do3Post.mk {B tb rb : Nat} {w w' : World} {T : List Nd} {h : Int} {r : List Nd × Int} (hr : r = (T, h)) (h1 : IsTab B w' tb T) (h2 : IsRef B w' rb T) (h3 : Frm trO B w w') : Do3Post B tb rb w r (.returned (.bool true)) w' := by
  subst hr; exact ⟨rfl, h1, h2, h3⟩
theorem RAddPost.intro3 {B tb : Nat} {w w' : World} {T : List Nd} {h : Int} {r : List Nd × Int} {e : Ending} (hr : r = (T, h)) (p : RAddPost B tb w r e w') : e = .returned (.int .i64 h) ∧ IsRef B w' tb T ∧ Frm refO B w w' := by
  subst hr; exact p
theorem partsT_in3 {near : Bool} {size : Int} {xs : List Int} (hx : I64 xs) (hs2 : size ≤ 70000) : I64 (partsT near size xs) := by
  unfold partsT
  split
  · rename_i h
    intro y hy
    obtain ⟨x, _, rfl⟩ := List.mem_map.1 hy
    unfold nearT
    have := Int.tmod_lt_of_pos (x.tmod size + size) h.2
    have := Int.lt_tmod_of_pos (x.tmod size + size) h.2
    omega
  · exact hx
theorem IsRef.len3 {B : Nat} {w : World} {rb : Nat} {T : List Nd} (h : IsRef B w rb T) : ∃ rA rc, w.cell? ⟨rb, 0, none⟩ = some (.slice rA T.length rc) := by
  obtain ⟨_, _, v, cs, q1, q2, _⟩ := h
  obtain ⟨rA, rc, rfl⟩ := owned_slice q2
  exact ⟨rA, rc, by rw [cell_of_row w _ 0 _ _ _ q1]; rfl⟩

set_option maxHeartbeats 3200000 in
set_option maxRecDepth 100000 in
theorem do3_text {B B' tb rb : Nat} {T : List Nd} (text : ByteArray) (A : Option Addr) (n c : Nat) (xs : List Int) (w : World) (ht : IsTab B w tb T) (hr : IsRef B w rb T) (htx : text.size ≤ 1000000) :
    Calls Try.prog 12 #[.pointer (some ⟨tb, 0, none⟩), .pointer (some ⟨rb, 0, none⟩), .agg #[.int .i64 1, .string text, .slice A n c]] w (Do3Post B tb rb w (textT T text)) := by
  have HT := Lib.hid ht
  have HR := Lib.hid hr
  clear ht hr
  obtain ⟨W, hW⟩ : ∃ W, W = w.alloc (.cells #[.int .i64 1, .string text, .slice A n c] 35) := ⟨_, rfl⟩
  have HW := Lib.hid hW
  have hbox : Hid (W.heap[w.heap.size]? = some (.cells #[.int .i64 1, .string text, .slice A n c] 35 (0, 0))) := by rw [hW]; exact heap_alloc_new w _
  have x0 : W.cell? ⟨w.heap.size, 1, none⟩ = some (.string text) := by rw [cell_of_row W _ 1 _ _ _ hbox.out]; rfl
  have HBW : Hid (Below w.heap.size w W) := by rw [hW]; exact below_new _
  have hsW : w.heap.size < W.heap.size := by rw [hW]; simp
  obtain ⟨rA, rc, r0⟩ := (HR.out.below HBW.out).len3
  rw [hW] at r0
  obtain ⟨cc, w1, hconv, hr1, hb1⟩ := run_str_bytes W.drew text htx
  have x1 : w1.cell? ⟨w.heap.size, 1, none⟩ = some (.string text) := (Below.cell hb1 (by simpa using hsW)).trans x0
  have HR1 := Lib.hid (hr1 0)
  have HB1 : Hid (Below W.heap.size W w1) := (Below.drew (Below.refl W.heap.size W)).trans hb1
  have hbox1 : Hid (w1.heap[w.heap.size]? = some (.cells #[.int .i64 1, .string text, .slice A n c] 35 (0, 0))) := (HB1.out.block _ hsW).trans hbox.out
  clear hr1 hb1
  go_enter Try.func12, Try.ntmps12
  go_wp2_with fail
  rw [← hW]
  clear hW
  go_region_held (fun w' => w'.cell? ⟨w.heap.size, 1, none⟩ = some (.string text)) (first | exact x1 | exact x2 | exact x3 | go_keep) ((first
    | (go_at_call 25
       refine (text_any _ _ _ _ w1 (HT.out.below (HBW.out.trans (below_next (Below.refl _ _) (Nat.le_of_lt hsW) HB1.out))) HR1.out).mono ?_
       rintro e w2 p2
       rw [str_numsL] at p2
       obtain ⟨⟨T2, h2⟩, he2⟩ : ∃ r, textT T text = r := ⟨_, rfl⟩
       obtain ⟨rfl, ht2, hf2⟩ := p2.intro he2
       have hbox2 := Lib.hid (hf2.block _ _ hbox1.out (.inr rfl))
       have x2 : w2.cell? ⟨w.heap.size, 1, none⟩ = some (.string text) := by rw [cell_of_row w2 _ 1 _ _ _ hbox2.out]; rfl
       have HT2 := Lib.hid ht2
       have HF2 := Lib.hid hf2
       have HE2 := Lib.hid he2
       clear p2 ht2 hf2 he2)
    | (go_at_call 26
       refine (text02_any text w2 ((HR.out.below (HBW.out.trans (below_next (Below.refl _ _) (Nat.le_of_lt hsW) HB1.out))).frm HF2.out (Nat.le_refl _) ref_tab tabO_sp)).mono ?_
       rintro e w3 p3
       obtain ⟨rfl, ht3, hf3⟩ := p3.intro3 HE2.out
       have x3 : w3.cell? ⟨w.heap.size, 1, none⟩ = some (.string text) := by rw [cell_of_row w3 _ 1 _ _ _ (hf3.block _ _ hbox2.out (.inr rfl))]; rfl
       have HR3 := Lib.hid ht3
       have HF3 := Lib.hid hf3
       clear p3 ht3 hf3)))
  all_goals
    go_wp2_with fail
    go_ret
    have HB := HBW.out.trans (below_next (Below.refl _ _) (Nat.le_of_lt hsW) HB1.out)
    exact Do3Post.mk HE2.out (HT2.out.frm HF3.out (Nat.le_refl _) tab_ref refO_sp) HR3.out ((Frm.of_below HB).trans ((HF2.out.mono tabO_tr).trans (HF3.out.mono refO_tr)))

set_option maxHeartbeats 1600000 in
set_option maxRecDepth 100000 in
theorem do3_secret {B B' tb rb : Nat} {T : List Nd} (text : ByteArray) (A : Option Addr) (n c : Nat) (xs : List Int) (w : World) (ht : IsTab B w tb T) (hr : IsRef B w rb T) :
    Calls Try.prog 12 #[.pointer (some ⟨tb, 0, none⟩), .pointer (some ⟨rb, 0, none⟩), .agg #[.int .i64 2, .string text, .slice A n c]] w (Do3Post B tb rb w (secretT T)) := by
  have HT := Lib.hid ht
  have HR := Lib.hid hr
  clear ht hr
  have HB := Lib.hid (below_new (w := w) (.cells #[.int .i64 2, .string text, .slice A n c] 35))
  obtain ⟨rA, rc, r0⟩ := (HR.out.below HB.out).len3
  obtain ⟨⟨T2, h2⟩, he2⟩ : ∃ r, secretT T = r := ⟨_, rfl⟩
  have HE2 := Lib.hid he2
  clear he2
  go_enter Try.func12, Try.ntmps12
  go_wp2_with fail
  refine (secret_any _ (HT.out.below HB.out)).mono ?_
  rintro e w2 p2
  obtain ⟨rfl, ht2, hf2⟩ := p2.intro HE2.out
  have HT2 := Lib.hid ht2
  have HF2 := Lib.hid hf2
  clear p2 ht2 hf2
  go_wp2_with fail
  refine (secret02_any w2 ((HR.out.below HB.out).frm HF2.out (Nat.le_refl _) ref_tab tabO_sp)).mono ?_
  rintro e w3 p3
  obtain ⟨rfl, ht3, hf3⟩ := p3.intro3 HE2.out
  have HR3 := Lib.hid ht3
  have HF3 := Lib.hid hf3
  clear p3 ht3 hf3
  go_wp2_with fail
  go_ret
  exact Do3Post.mk HE2.out (HT2.out.frm HF3.out (Nat.le_refl _) tab_ref refO_sp) HR3.out ((Frm.of_below HB.out).trans ((HF2.out.mono tabO_tr).trans (HF3.out.mono refO_tr)))

set_option maxHeartbeats 1600000 in
set_option maxRecDepth 100000 in
theorem do3_secret0 {B tb rb : Nat} {T : List Nd} (kind : Int) (text : ByteArray) (A : Option Addr) (n c : Nat) (w : World) (ht : IsTab B w tb T) (hr : IsRef B w rb T) (k1 : ¬ kind = 1) (h0 : T.length = 0) :
    Calls Try.prog 12 #[.pointer (some ⟨tb, 0, none⟩), .pointer (some ⟨rb, 0, none⟩), .agg #[.int .i64 kind, .string text, .slice A n c]] w (Do3Post B tb rb w (secretT T)) := by
  have HT := Lib.hid ht
  have HR := Lib.hid hr
  clear ht hr
  have HB := Lib.hid (below_new (w := w) (.cells #[.int .i64 kind, .string text, .slice A n c] 35))
  obtain ⟨rA, rc, r0⟩ := (HR.out.below HB.out).len3
  rw [h0] at r0
  obtain ⟨⟨T2, h2⟩, he2⟩ : ∃ r, secretT T = r := ⟨_, rfl⟩
  have HE2 := Lib.hid he2
  have k1' : (kind == 1) = false := by simp [k1]
  clear he2
  go_enter Try.func12, Try.ntmps12
  by_cases k2 : kind = 2
  · have k2' : (kind == 2) = true := by simp [k2]
    clear k1 k2
    go_wp2_with fail
    refine (secret_any _ (HT.out.below HB.out)).mono ?_
    rintro e w2 p2
    obtain ⟨rfl, ht2, hf2⟩ := p2.intro HE2.out
    have HT2 := Lib.hid ht2
    have HF2 := Lib.hid hf2
    clear p2 ht2 hf2
    go_wp2_with fail
    refine (secret02_any w2 ((HR.out.below HB.out).frm HF2.out (Nat.le_refl _) ref_tab tabO_sp)).mono ?_
    rintro e w3 p3
    obtain ⟨rfl, ht3, hf3⟩ := p3.intro3 HE2.out
    have HR3 := Lib.hid ht3
    have HF3 := Lib.hid hf3
    clear p3 ht3 hf3
    go_wp2_with fail
    go_ret
    exact Do3Post.mk HE2.out (HT2.out.frm HF3.out (Nat.le_refl _) tab_ref refO_sp) HR3.out ((Frm.of_below HB.out).trans ((HF2.out.mono tabO_tr).trans (HF3.out.mono refO_tr)))
  · have k2' : (kind == 2) = false := by simp [k2]
    clear k1 k2
    go_wp2_with fail
    refine (secret_any _ (HT.out.below HB.out)).mono ?_
    rintro e w2 p2
    obtain ⟨rfl, ht2, hf2⟩ := p2.intro HE2.out
    have HT2 := Lib.hid ht2
    have HF2 := Lib.hid hf2
    clear p2 ht2 hf2
    go_wp2_with fail
    refine (secret02_any w2 ((HR.out.below HB.out).frm HF2.out (Nat.le_refl _) ref_tab tabO_sp)).mono ?_
    rintro e w3 p3
    obtain ⟨rfl, ht3, hf3⟩ := p3.intro3 HE2.out
    have HR3 := Lib.hid ht3
    have HF3 := Lib.hid hf3
    clear p3 ht3 hf3
    go_wp2_with fail
    go_ret
    exact Do3Post.mk HE2.out (HT2.out.frm HF3.out (Nat.le_refl _) tab_ref refO_sp) HR3.out ((Frm.of_below HB.out).trans ((HF2.out.mono tabO_tr).trans (HF3.out.mono refO_tr)))

set_option maxHeartbeats 3200000 in
set_option maxRecDepth 100000 in
theorem do3_make {B B' tb rb : Nat} {T : List Nd} (kind : Int) (text : ByteArray) (A : Option Addr) (n c : Nat) (xs : List Int) (w : World) (ht : IsTab B w tb T) (hr : IsRef B w rb T) (hp : Rds B' w .i64 A n c xs) (hx : I64 xs) (hn : n ≤ 100) (k1 : ¬ kind = 1) (k2 : ¬ kind = 2) (h0 : 0 < T.length) :
    Calls Try.prog 12 #[.pointer (some ⟨tb, 0, none⟩), .pointer (some ⟨rb, 0, none⟩), .agg #[.int .i64 kind, .string text, .slice A n c]] w (Do3Post B tb rb w (makeT T kind (xs.map (nearT T.length)))) := by
  have HT := Lib.hid ht
  have HR := Lib.hid hr
  have HP := Lib.hid hp
  have HX := Lib.hid hx
  have hl := Lib.hid hp.len
  have hT := ht.1.len
  clear ht hr hp hx
  obtain ⟨W, hW⟩ : ∃ W, W = w.alloc (.cells #[.int .i64 kind, .string text, .slice A n c] 35) := ⟨_, rfl⟩
  have hbox : Hid (W.heap[w.heap.size]? = some (.cells #[.int .i64 kind, .string text, .slice A n c] 35 (0, 0))) := by rw [hW]; exact heap_alloc_new w _
  have HBW : Hid (Below w.heap.size w W) := by rw [hW]; exact below_new _
  have hsW : w.heap.size < W.heap.size := by rw [hW]; simp
  obtain ⟨rA, rc, r0⟩ := (HR.out.below HBW.out).len3
  rw [hW] at r0
  have k1' : (kind == 1) = false := by simp [k1]
  have k2' : (kind == 2) = false := by simp [k2]
  have hl0 : ((T.length : Int) == 0) = false := by rw [beq_eq_false_iff_ne]; omega
  go_enter Try.func12, Try.ntmps12
  clear k1 k2
  go_wp2_with fail
  rw [← hW]
  clear hW r0
  obtain ⟨size, hsz⟩ : ∃ z : Int, z = (T.length : Int) := ⟨_, rfl⟩
  have hs0 : 0 < size := by omega
  have hs1 : size ≤ 70000 := by omega
  have hsn : ¬ size = 0 := by omega
  rw [← hsz]
  have HSZ := Lib.hid hsz
  clear hsz hl0
  go_loopw [8, 9, 10] (fun v8 v9 i wr => ∃ k : Nat, k ≤ n ∧ i = .int .i64 k ∧ Hid (OwnT wr W.heap.size 3 v8 ((xs.take k).map (nearT size))) ∧ Hid (OwnT wr W.heap.size 37 v9 ((xs.take k).map (nearT size))) ∧ Hid (Below W.heap.size W wr)) (fun _ _ i _ => n - (intOf i).toNat)
  case atStart => exact ⟨0, Nat.zero_le _, rfl, OwnT.nil _ _ _, OwnT.nil _ _ _, Below.refl _ _⟩
  case round =>
    obtain ⟨k, hk, rfl, HO8, HO9, HBR⟩ := hrel
    have hbx := (HBR.out.block _ hsW).trans hbox.out
    have y0 : wr.cell? ⟨w.heap.size, 0, none⟩ = some (.int .i64 kind) := by rw [cell_of_row wr _ 0 _ _ _ hbx]; rfl
    have y2 : wr.cell? ⟨w.heap.size, 2, none⟩ = some (.slice A n c) := by rw [cell_of_row wr _ 2 _ _ _ hbx]; rfl
    have hsr := HBR.out.size
    have HBX := Lib.hid hbx
    have HP2 := Lib.hid ((HP.out.below HBW.out).below HBR.out)
    clear hbx
    by_cases hlt : k < n
    · obtain ⟨bA, oA, rfl, hcl⟩ := RdI.at_ HP2.out.cell (by have := hl.out; omega)
      have a0 := hcl k (by have := hl.out; omega)
      obtain ⟨x, hx⟩ : ∃ x, x = nth xs k := ⟨_, rfl⟩
      have hxr := HX.out.nth k
      rw [← hx] at a0 hxr
      have hw1 : wrap64 (x.tmod size + size) = x.tmod size + size := wrap_in (by have := Int.tmod_lt_of_pos x hs0; have := Int.lt_tmod_of_pos x hs0; omega)
      have hw2 : wrap64 ((x.tmod size + size).tmod size + 1) = nearT size x := wrap_in (by have := Int.tmod_lt_of_pos (x.tmod size + size) hs0; have := Int.lt_tmod_of_pos (x.tmod size + size) hs0; omega)
      have htk : (xs.take (k + 1)).map (nearT size) = (xs.take k).map (nearT size) ++ [nearT size x] := by rw [take_nth_succ (by have := hl.out; omega), List.map_append, hx]; rfl
      have HTK := Lib.hid htk
      obtain ⟨L, hL⟩ : ∃ L, L = (xs.take k).map (nearT size) := ⟨_, rfl⟩
      have hLl : L.length ≤ 1000000 := by rw [hL]; simp; omega
      rw [← hL] at HO8 HO9 HTK
      obtain ⟨y, hy⟩ : ∃ y, y = nearT size x := ⟨_, rfl⟩
      rw [← hy] at hw2 HTK
      obtain ⟨v8A, v8c, e8⟩ := HO8.out.slice
      obtain ⟨v9A, v9c, e9⟩ := HO9.out.slice
      clear hcl htk hx hL hy
      subst e8
      subst e9
      go_wp2_with (at_builtin; refine wp_appT (b := y) rfl _ _ 23 3 rfl Try.underlying23 info_int rfl rfl (HO8.out.below (below_new _)) rfl ?_ ?_ hLl ?_)
      · simp [go_sem, hw1, hw2]
      · simp; omega
      intro v8' w3 ho3 hg3 hn3
      have HO8' := Lib.hid ho3
      have ho9 : OwnT w3 W.heap.size 37 (.slice v9A L.length v9c) L := by
        refine (HO9.out.below (below_new _)).same fun g e => hg3.block g ?_ fun q => ?_
        · have := (HO9.out.lt g e).2; simp; omega
        · exact HO8.out.apart HO9.out (by decide) g q.symm e
      have HO9' := Lib.hid ho9
      have hs3 : wr.heap.size + 1 ≤ w3.heap.size := by have := hg3.size; simpa using this
      have hb3 : Below W.heap.size W w3 := by
        refine (HBR.out.alloc hsr _).trans ⟨hg3.os, hg3.tape, hg3.output, hg3.size, fun q hq => hg3.block q (by simp; omega) fun e => ?_⟩
        have := (HO8.out.lt q e.symm).1
        omega
      have HB3 := Lib.hid hb3
      clear ho3 hg3 hn3 ho9 hb3 HO8 HO9 HBR a0 hw1 hxr y0 y2
      go_wp2_with (at_builtin; refine wp_appT (b := y) rfl _ _ 38 37 rfl Try.underlying38 info_term rfl rfl (HO9'.out.below (below_new _)) rfl ?_ ?_ hLl ?_)
      · simp [go_sem]
      · simp; omega
      intro v9' w4 ho4 hg4 hn4
      have HO9'' := Lib.hid ho4
      have ho8 : OwnT w4 W.heap.size 3 v8' (L ++ [y]) := by
        refine (HO8'.out.below (below_new _)).same fun g e => hg4.block g ?_ fun q => ?_
        · have := (HO8'.out.lt g e).2; simp; omega
        · exact HO9'.out.apart HO8'.out (by decide) g q.symm e
      have HO8'' := Lib.hid ho8
      have hb4 : Below W.heap.size W w4 := by
        refine (HB3.out.alloc (by omega) _).trans ⟨hg4.os, hg4.tape, hg4.output, hg4.size, fun q hq => hg4.block q (by simp; omega) fun e => ?_⟩
        have := (HO9'.out.lt q e.symm).1
        omega
      have HB4 := Lib.hid hb4
      clear ho4 hg4 hn4 ho8 hb4 HO8' HO9' HB3
      go_wp2_with fail
      go_roundw
      case rel => exact ⟨k + 1, by omega, by go_num, by rw [HTK.out]; exact HO8'', by rw [HTK.out]; exact HO9'', HB4⟩
      case measure => simp [intOf]; omega
    · obtain rfl : k = n := by omega
      have htk : (xs.take k).map (nearT size) = xs.map (nearT size) := by rw [List.take_of_length_le (by have := hl.out; omega)]
      rw [htk] at HO8 HO9
      obtain ⟨A8, c8, e8⟩ := HO8.out.slice
      obtain ⟨A9, c9, e9⟩ := HO9.out.slice
      subst e8
      subst e9
      have hlm : (xs.map (nearT size)).length = k := by rw [List.length_map]; exact hl.out
      have HR8 := Lib.hid (HO8.out.own sp_int)
      have HR9 := Lib.hid (HO9.out.own sp_term)
      have HB0 : Hid (Below w.heap.size w wr) := HBW.out.trans (HBR.out.mono (Nat.le_of_lt hsW))
      have HPX : Hid (I64 (xs.map (nearT size))) := by
        have := partsT_in3 (near := true) HX.out hs1
        unfold partsT at this
        rwa [if_pos ⟨rfl, hs0⟩] at this
      obtain ⟨⟨T4, h4⟩, he4⟩ : ∃ r, makeT T kind (xs.map (nearT size)) = r := ⟨_, rfl⟩
      have HE4 := Lib.hid he4
      have HTr : Hid (IsTab B wr.drew tb T) := HT.out.below HB0.out.drew
      have HRr : Hid (IsRef B wr.drew rb T) := HR.out.below HB0.out.drew
      have HR8d : Hid (OwnI wr.drew W.heap.size .i64 (.slice A8 k c8) (xs.map (nearT size))) := by have := HR8.out.below ((Below.refl _ _).drew); rwa [hlm] at this
      have HR9d : Hid (OwnI wr.drew W.heap.size .i64 (.slice A9 k c9) (xs.map (nearT size))) := by have := HR9.out.below ((Below.refl _ _).drew); rwa [hlm] at this
      have HF2 : Hid (Frm trO B w wr.drew) := Frm.of_below HB0.out.drew
      rw [hlm]
      clear he4 HR8 HR9 HO8 HO9 HT HR htk hlm hlt HP HP2
      go_wp2_with fail
      go_region_held3 (fun w' => w'.cell? ⟨w.heap.size, 0, none⟩ = some (.int .i64 kind)) (first | exact x4 | exact x5 | go_keep) ((first
        | (go_at_call 29
           refine (make_any kind A9 k c9 (xs.map (nearT size)) _ HTr.out (HR9d.out.rds (B' := 0)) HPX.out (by omega)).mono ?_
           rintro e w4 p4
           obtain ⟨rfl, ht4, hf4⟩ := p4.intro HE4.out
           have hbox4 := Lib.hid (hf4.block _ _ HBX.out (.inr rfl))
           have x4 : w4.cell? ⟨w.heap.size, 0, none⟩ = some (.int .i64 kind) := by rw [cell_of_row w4 _ 0 _ _ _ hbox4.out]; rfl
           have HT4 := Lib.hid ht4
           have HF4 := Lib.hid hf4
           clear p4 ht4 hf4)
        | (go_at_call 30
           refine (make02_any kind A8 k c8 (xs.map (nearT size)) w4 (HRr.out.frm HF4.out (Nat.le_refl _) ref_tab tabO_sp) ((HR8d.out.frm HF4.out.tab_sp).rds (B' := 0)) HPX.out (by omega)).mono ?_
           rintro e w5 p5
           obtain ⟨rfl, ht5, hf5⟩ := p5.intro3 HE4.out
           have x5 : w5.cell? ⟨w.heap.size, 0, none⟩ = some (.int .i64 kind) := by rw [cell_of_row w5 _ 0 _ _ _ (hf5.block _ _ hbox4.out (.inr rfl))]; rfl
           have HR5 := Lib.hid ht5
           have HF5 := Lib.hid hf5
           clear p5 ht5 hf5)))
      all_goals
        go_wp2_with fail
        go_ret
        exact Do3Post.mk (by rw [← HSZ.out]; exact HE4.out) (HT4.out.frm HF5.out (Nat.le_refl _) tab_ref refO_sp) HR5.out (HF2.out.trans ((HF4.out.mono tabO_tr).trans (HF5.out.mono refO_tr)))
theorem do3_any {B B' tb rb : Nat} {T : List Nd} (kind : Int) (text : ByteArray) (A : Option Addr) (n c : Nat) (xs : List Int) (w : World) (ht : IsTab B w tb T) (hr : IsRef B w rb T) (hp : Rds B' w .i64 A n c xs) (hx : I64 xs) (hn : n ≤ 100) (htx : text.size ≤ 1000000) :
    Calls Try.prog 12 #[.pointer (some ⟨tb, 0, none⟩), .pointer (some ⟨rb, 0, none⟩), .agg #[.int .i64 kind, .string text, .slice A n c]] w (Do3Post B tb rb w (stepT3 T kind text xs)) := by
  unfold stepT3
  by_cases k1 : kind = 1
  · subst k1
    exact do3_text (B' := B') text A n c xs w ht hr htx
  rw [if_neg k1]
  by_cases k2 : kind = 2
  · subst k2
    rw [if_pos (.inl rfl)]
    exact do3_secret (B' := B') text A n c xs w ht hr
  by_cases h0 : T.length = 0
  · rw [if_pos (.inr h0)]
    exact do3_secret0 kind text A n c w ht hr k1 h0
  rw [if_neg (by rintro (q | q); exact k2 q; exact h0 q)]
  exact do3_make kind text A n c xs w ht hr hp hx hn k1 k2 (by omega)
end Go.Proofs.Ytmaedahleenlgaa
