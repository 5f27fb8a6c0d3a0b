/- The reference's table: add. No condition. -/
import Derived.Test.YtmaedahleenlgaaRef
set_option linter.unusedVariables false
set_option linter.unusedSimpArgs false
namespace Go.Proofs.Ytmaedahleenlgaa
open Go Go.RowKit Go.WideMaps

theorem info_node02 : (Try.prog.info? 71).map (fun i => (i.zero, i.size, i.bytes)) = some (some (.agg #[.int .i64 0, .string ByteArray.empty, .slice none 0 0]), 3, 48) := by kernel_rfl
def RAddPost (B rb : Nat) (w : World) (r : List Nd × Int) (e : Ending) (w' : World) : Prop := e = .returned (.int .i64 r.2) ∧ IsRef B w' rb r.1 ∧ Frm refO B w w'
theorem radd_found {B rb : Nat} {T : List Nd} {n : Nd} {w w' : World} {i : Nat} (hw : WfT T) (hi : T[i]? = some n) (hk : n.kind ≠ 2) (ht : IsRef B w rb T) (hb : Below w.heap.size w w') : RAddPost B rb w (addT T n) (.returned (.int .i64 ((i : Int) + 1))) w' := by
  unfold RAddPost addT
  rw [if_neg hk, lookT_of hw hi hk]
  exact ⟨rfl, ht.below hb, .of_below hb⟩
theorem radd_none {T : List Nd} {n : Nd} (h : ∀ (i : Nat) (m : Nd), T[i]? = some m → ¬ SameN m n) : (if n.kind = 2 then none else lookT T n) = none := by
  split
  · rfl
  · rename_i hk
    cases hq : lookT T n with
    | none => rfl
    | some i =>
      have := lookT_some hq
      exact absurd ⟨hk, rfl⟩ (h i n this)
theorem own_ne_ref {w : World} {B e size n tb : Nat} {v : Value} {xs : List Value} {o : Obj} (h : w.ownsRow B e size v n xs) (ho : w.heap[tb]? = some o) (ht : (match o with | .cells _ t _ => t == e | _ => false) = false) : some tb ≠ v.ownBlock := own_ne_tab h ho ht
/-- Behind the append and the store. -/
theorem ref_push {B : Nat} {w w3 w5 : World} {rb g cap : Nat} {T : List Nd} {n : Nd} {A P : Option Addr} {cA c : Nat} {cs : List Value} (hB : B ≤ rb)
    (h1 : w.heap[rb]? = some (.cells #[.slice A T.length cA] 32 (0, 0))) (hown : w.ownsRow B 71 3 (.slice A T.length cA) T.length cs)
    (b3 : Below w.heap.size w w3) {N : Obj}
    (hown5 : w5.ownsRow B 71 3 (.slice (some ⟨g, 0, none⟩) (T.length + 1) cap) (T.length + 1) (cs ++ [.int .i64 n.kind, .string n.text, .slice P n.parts.length c]))
    (hgr5 : (w3.alloc N).drew.grownBy w5 (Value.slice A T.length cA).ownBlock) (hg5 : (Value.slice A T.length cA).ownBlock = some g ∨ g = w3.heap.size + 1)
    (hw : WfT T) (hcs : CellsOk B w T cs) (hg : GoodN T.length T n) (hr : Rds B w .i64 P n.parts.length c n.parts) (hq : (if n.kind = 2 then none else lookT T n) = none) (hlt : T.length < 65536) :
    RAddPost B rb w (addT T n) (.returned (.int .i64 ((T.length : Int) + 1))) (w5.setCell ⟨rb, 0, none⟩ (.slice (some ⟨g, 0, none⟩) (T.length + 1) cap)) := by
  have hadd : addT T n = (T ++ [n], (T.length : Int) + 1) := by
    unfold addT
    rw [hq]
    simp only [if_neg (show ¬ T.length = 65536 by omega)]
  have hwf : WfT (T ++ [n]) := wfT_snoc hw hg hlt fun hk => by rw [if_neg hk] at hq; exact lookT_none hq
  have htb := lt_of_get h1
  have hs3 := b3.size
  have hne1 : some rb ≠ (Value.slice A T.length cA).ownBlock := own_ne_tab hown h1 rfl
  have hgt : g ≠ rb := by
    rintro rfl
    rcases hg5 with h | h
    · exact hne1 h.symm
    · omega
  have old : ∀ k, k < w3.heap.size → some k ≠ (Value.slice A T.length cA).ownBlock → w5.heap[k]? = w3.heap[k]? := fun k hk hne =>
    (hgr5.block k (by simp; omega) hne).trans (alloc_old hk)
  have old6 : ∀ k, k < w3.heap.size → k ≠ rb → some k ≠ (Value.slice A T.length cA).ownBlock → (w5.setCell ⟨rb, 0, none⟩ (.slice (some ⟨g, 0, none⟩) (T.length + 1) cap)).heap[k]? = w3.heap[k]? := fun k hk hk2 hne =>
    (Below.heap_setCell w5 _ _ k hk2).trans (old k hk hne)
  have e5 : w5.heap[rb]? = some (.cells #[.slice A T.length cA] 32 (0, 0)) := (old rb (by omega) hne1).trans ((b3.block rb htb).trans h1)
  have frm : Frm refO B w (w5.setCell ⟨rb, 0, none⟩ (.slice (some ⟨g, 0, none⟩) (T.length + 1) cap)) := by
    refine ⟨?_, ?_, ?_, ?_, fun k o hk hc => ?_⟩
    · exact hgr5.os.trans b3.os
    · exact hgr5.tape.trans b3.tape
    · exact hgr5.output.trans b3.output
    · have := hgr5.size; simp at this ⊢; omega
    · have hkl := lt_of_get hk
      have hkt : k ≠ rb := by
        rintro rfl
        rw [h1] at hk
        cases hk
        rcases hc with hc | hc
        · omega
        · simp [refO] at hc
      have hko : some k ≠ (Value.slice A T.length cA).ownBlock := by
        intro e
        have hb := (hown.lt k e.symm).1
        rcases hown.2 with ⟨h, _⟩ | ⟨g', cap', cur, h, _, hgg, _⟩
        · rw [h] at e; simp [Value.ownBlock] at e
        · rw [h] at e
          simp only [Value.ownBlock, Option.some.injEq] at e
          subst e
          rw [hgg] at hk
          cases hk
          rcases hc with hc | hc
          · omega
          · simp [refO] at hc
      exact (old6 k (by omega) hkt hko).trans ((b3.block k hkl).trans hk)
  have sp : Frm spO B w (w5.setCell ⟨rb, 0, none⟩ (.slice (some ⟨g, 0, none⟩) (T.length + 1) cap)) := frm.mono refO_sp
  unfold RAddPost
  rw [hadd]
  refine ⟨rfl, ⟨hwf, hB, _, _, heap_setCell_same w5 rb 0 _ _ _ e5, ?_, (hcs.frm sp).snoc hown.1 (hr.frm sp)⟩, frm⟩
  have := hown5.kept (grownBy_setCell w5 ⟨rb, 0, none⟩ (.slice (some ⟨g, 0, none⟩) (T.length + 1) cap)) (.inr (by simp [Value.ownBlock]; exact hgt))
  simpa using this

set_option maxHeartbeats 3200000 in
set_option maxRecDepth 100000 in
theorem add02_any {B rb : Nat} {T : List Nd} (kind : Int) (text : ByteArray) (P : Option Addr) (n c : Nat) (parts : List Int) (w : World) (ht : IsRef B w rb T) (hg : GoodN T.length T ⟨kind, text, parts⟩) (hr : Rds B w .i64 P n c parts) :
    Calls Try.prog 38 #[.pointer (some ⟨rb, 0, none⟩), .agg #[.int .i64 kind, .string text, .slice P n c]] w (RAddPost B rb w (addT T ⟨kind, text, parts⟩)) := by
  have HG := Lib.hid hg; clear hg
  have HR := Lib.hid hr; clear hr
  have HT := Lib.hid ht
  obtain ⟨hw, hB, v, cs, h1, hown, hcs⟩ := ht
  have hlen := HR.out.len
  subst hlen
  have hrb : rb < w.heap.size := lt_of_get h1
  have hTl := hw.len
  obtain ⟨A, cA, rfl⟩ := owned_slice hown
  have Hw := Lib.hid hw
  have H1 := Lib.hid h1
  have Hown := Lib.hid hown
  have Hcs := Lib.hid hcs
  clear hw h1 hown hcs
  go_enter Try.func38, Try.ntmps38
  go_wp2_with fail
  obtain ⟨W, hW⟩ : ∃ W, W = w.alloc (.cells #[.int .i64 kind, .string text, .slice P parts.length c] 71) := ⟨_, rfl⟩
  rw [← hW]
  have bW : Hid (Below w.heap.size w W) := by rw [hW]; exact below_new _
  have d0 : W.cell? ⟨w.heap.size, 0, none⟩ = some (.int .i64 kind) := by rw [hW]; simp [go_sem]
  have d1 : W.cell? ⟨w.heap.size, 1, none⟩ = some (.string text) := by rw [hW]; simp [go_sem]
  have d2 : W.cell? ⟨w.heap.size, 2, none⟩ = some (.slice P parts.length c) := by rw [hW]; simp [go_sem]
  have sW : W.heap.size = w.heap.size + 1 := by rw [hW]; simp
  have D0 := Lib.hid d0
  have D1 := Lib.hid d1
  have D2 := Lib.hid d2
  clear hW d0 d1 d2
  go_loopw [5] (fun v5 wr => ∃ i : Nat, i ≤ T.length ∧ v5 = .int .i64 i ∧ Hid (∀ (a : Nat) (m : Nd), a < i → T[a]? = some m → ¬ SameN m ⟨kind, text, parts⟩) ∧ Below W.heap.size W wr) (fun v5 _ => T.length - (intOf v5).toNat)
  case atStart => exact ⟨0, Nat.zero_le _, rfl, fun a m ha => by omega, Below.refl _ _⟩
  case round =>
    obtain ⟨i, hi, rfl, hno, hb⟩ := hrel
    have HB := Lib.hid hb
    have HBw := Lib.hid (below_step bW.out hb)
    have hsz := HBw.out.size
    clear hb
    have c0 : wr.cell? ⟨rb, 0, none⟩ = some (.slice A T.length cA) := by rw [cell_of_row wr rb 0 _ _ _ ((HBw.out.block _ hrb).trans H1.out)]; rfl
    have d0 := cell_later HB.out D0.out
    have d1 := cell_later HB.out D1.out
    have d2 := cell_later HB.out D2.out
    by_cases hlt : i < T.length
    · obtain ⟨m, hm⟩ : ∃ m, T[i]? = some m := ⟨_, List.getElem?_eq_getElem hlt⟩
      obtain ⟨_, cs', g1', hown', hcs'⟩ : ∃ v cs, wr.heap[rb]? = some (.cells #[v] 32 (0, 0)) ∧ wr.ownsRow B 71 3 (.slice A T.length cA) T.length cs ∧ CellsOk B wr T cs :=
        ⟨_, cs, (HBw.out.block _ hrb).trans H1.out, Hown.out.kept (grown_of_below HBw.out none) (by cases A <;> simp [Value.ownBlock]), Hcs.out.frm (.of_below HBw.out)⟩
      obtain ⟨g, cap, e1, hfrm⟩ := hown'.form (by omega)
      cases e1
      obtain ⟨AP, cP, hp1, hp2⟩ := hcs'.parts i m hm
      have k0 : wr.cell? ⟨g, i * 3, none⟩ = some (.int .i64 m.kind) := by rw [hown'.cellAt _ (by omega)]; exact hcs'.kind i m hm
      have k1 : wr.cell? ⟨g, i * 3 + 1, none⟩ = some (.string m.text) := by rw [hown'.cellAt _ (by omega)]; exact hcs'.text i m hm
      have k2 : wr.cell? ⟨g, i * 3 + 2, none⟩ = some (.slice AP m.parts.length cP) := by rw [hown'.cellAt _ (by omega)]; exact hp1
      have HP := Lib.hid hp2
      have HM := Lib.hid hm
      have hi0 : (0 : Int) ≤ (i : Int) := by omega
      have hiT : (i : Int) < (T.length : Int) := by omega
      clear hp1 hp2 hm hfrm g1' hown' hcs'
      go_wp2_with fail
      go_region_law ((go_simp; go_at_call 51; refine (same02_any m.kind kind m.text text AP P m.parts.length parts.length cP c m.parts parts wr.drew (HP.out.below ((Below.refl _ _).drew)) ((HR.out.below HBw.out).below ((Below.refl _ _).drew))).mono ?_; rintro e w4 ⟨rfl, hb4⟩; have HB4 := Lib.hid hb4; clear hb4))
      all_goals
        have HB5 := Lib.hid (below_next HB.out.drew HB.out.size HB4.out)
        clear k0 k1 k2 d0 d1 d2 c0 HB HB4
        by_cases hs : SameN ⟨m.kind, m.text, m.parts⟩ ⟨kind, text, parts⟩
        · rw [decide_eq_true hs]
          have HS := Lib.hid hs
          clear hs
          go_wp2_with fail
          go_ret
          refine radd_found Hw.out (HM.out.trans (congrArg some HS.out.2)) ?_ HT.out (below_step bW.out HB5.out)
          have := HS.out.2
          rw [← this]
          exact HS.out.1
        · rw [decide_eq_false hs]
          have HS := Lib.hid hs
          clear hs
          go_wp2_with fail
          go_roundw
          case rel => exact ⟨i + 1, by omega, by go_num, fun a m' ha hm' => by
            rcases Nat.lt_or_ge a i with h | h
            · exact hno.out a m' h hm'
            · obtain rfl : a = i := by omega
              rw [HM.out] at hm'
              cases hm'
              exact HS.out, HB5.out⟩
          case measure => simp [intOf]; omega
    · obtain rfl : i = T.length := by omega
      have hq := Lib.hid (radd_none (n := ⟨kind, text, parts⟩) fun a m hm => hno.out a m (List.getElem?_eq_some_iff.1 hm).1 hm)
      by_cases hfull : T.length = 65536
      · have hf : Hid (addT T ⟨kind, text, parts⟩ = (T, 0)) := by
          show _ = _
          unfold addT
          rw [hq.out]
          simp only [if_pos hfull]
        have hge : (65536 : Int) ≤ (T.length : Int) := by omega
        go_wp2_with fail
        go_ret
        rw [hf.out]
        exact ⟨rfl, HT.out.below HBw.out, .of_below HBw.out⟩
      · have hlt2 : T.length < 65536 := by omega
        have hge : ¬ (65536 : Int) ≤ (T.length : Int) := by omega
        go_wp2_with fail
        obtain ⟨i0, hi0, hz0, hz1, hz2⟩ := info_parts info_node02
        have ON := Lib.hid (((Hown.out.kept (grown_of_below HBw.out none) (by cases A <;> simp [Value.ownBlock])).alloc (.cells #[.int .i64 kind, .string text, .slice P parts.length c] 71)).drew)
        have hne : Hid (some rb ≠ (Value.slice A T.length cA).ownBlock) := own_ne_tab ON.out (o := .cells #[.slice A T.length cA] 32 (0, 0)) ((alloc_old (by omega)).trans ((HBw.out.block _ hrb).trans H1.out)) rfl
        have tabcell : Hid (∀ w5, (wr.alloc (.cells #[.int .i64 kind, .string text, .slice P parts.length c] 71)).drew.grownBy w5 (Value.slice A T.length cA).ownBlock → w5.cell? ⟨rb, 0, none⟩ = some (.slice A T.length cA) ∧ w5.frozen? ⟨rb, 0, none⟩ = false) := by
          intro w5 hg
          have e : w5.heap[rb]? = some (.cells #[.slice A T.length cA] 32 (0, 0)) := (hg.block rb (by simp; omega) hne.out).trans ((alloc_old (by omega)).trans ((HBw.out.block _ hrb).trans H1.out))
          exact ⟨by rw [cell_of_row w5 rb 0 _ _ _ e]; rfl, frozen_of_row w5 rb 0 _ _ e⟩
        have hnews : Hid (∀ j u, ([.int .i64 kind, .string text, .slice P parts.length c] : List Value)[j]? = some u → (wr.alloc (.cells #[.int .i64 kind, .string text, .slice P parts.length c] 71)).drew.cell? ((⟨wr.heap.size, 0, none⟩ : Addr).add j) = some u) := World.news_of_block (heap_alloc_new wr _)
        have hone : Hid (∀ u ∈ ([.int .i64 kind, .string text, .slice P parts.length c] : List Value), u.oneCell' = true) := by
          intro u hu; simp at hu; rcases hu with rfl | rfl | rfl <;> rfl
        have hbase : Hid (B ≤ (wr.alloc (.cells #[.int .i64 kind, .string text, .slice P parts.length c] 71)).drew.heap.size) := by show B ≤ _; simp; omega
        have hml : Hid (T.length + 1 ≤ maxLen) := by show _ ≤ _; simp only [maxLen]; omega
        have hby : Hid ((T.length + 1) * 48 ≤ 140737488355328) := by show _ ≤ _; omega
        have hsz2 : Hid ((wr.alloc (.cells #[.int .i64 kind, .string text, .slice P parts.length c] 71)).drew.heap.size = wr.heap.size + 1) := by show _ = _; simp
        have htb3 : rb < wr.heap.size := by omega
        have hlb := HB.out.size
        have hws3 : w.heap.size < wr.heap.size := by omega
        go_region_law ((refine step_append_lies _ rfl (.tmp 36) (.tmp 38) 30 rfl B 71 i0 _ 3 48 Try.underlying30 hi0 hz0 hz1 hz2 rfl (by decide) (.slice A T.length cA) T.length cs (by simp [Act.eval, Act.put]) ON.out ⟨wr.heap.size, 0, none⟩ 1 1 [.int .i64 kind, .string text, .slice P parts.length c] (by simp [Act.eval, Act.put]) rfl hnews.out hone.out (by decide) hml.out hby.out hbase.out (wr.heap.size + 1) hsz2.out ?_); intro g cap w5 hown5 hgr5 hg5 hgl5; have HOWN5 := Lib.hid hown5; have HGR5 := Lib.hid hgr5; have HG5 := Lib.hid hg5; obtain ⟨e0, e1⟩ := tabcell.out w5 hgr5; clear hown5 hgr5 hg5)
        all_goals
          have M := Lib.hid (ref_push (n := ⟨kind, text, parts⟩) hB H1.out Hown.out HBw.out HOWN5.out HGR5.out HG5.out Hw.out Hcs.out HG.out HR.out hq.out hlt2)
          have c6 := World.cell?_setCell_same w5 ⟨rb, 0, none⟩ (.slice (some ⟨g, 0, none⟩) (T.length + 1) cap) e0
          obtain ⟨w6, hw6⟩ : ∃ w6, w6 = w5.setCell ⟨rb, 0, none⟩ (.slice (some ⟨g, 0, none⟩) (T.length + 1) cap) := ⟨_, rfl⟩
          rw [← hw6] at M c6 ⊢
          clear hw6 HOWN5 HGR5 HG5 e0 e1 c0 d0 d1 d2 htb3 hws3 ON hne tabcell hnews hone hbase hml hby hsz2 hgl5 HB HBw D0 D1 D2
          go_wp2_with fail
          go_ret
          exact M.out
end Go.Proofs.Ytmaedahleenlgaa
