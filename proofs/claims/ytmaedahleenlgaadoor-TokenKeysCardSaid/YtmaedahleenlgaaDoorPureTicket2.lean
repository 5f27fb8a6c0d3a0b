/- What an issued ticket is, and what it is redeemed to. Plain. -/
import Derived.Test.YtmaedahleenlgaaDoorTicket4
import Derived.Test.YtmaedahleenlgaaDoorPureSched
set_option linter.unusedVariables false
set_option linter.unusedSimpArgs false
namespace Go.Proofs.YtmaedahleenlgaaDoor
open Go Go.RowKit

theorem numsL_str {xs : List Int} (h : Byt xs) : numsL (strOfNums xs) = xs := by
  have e : numsL (strOfNums xs) = xs.map fun n => ((UInt8.ofNat n.toNat).toNat : Int) := by simp [numsL, strOfNums]
  rw [e]
  conv => rhs; rw [← List.map_id xs]
  apply List.map_congr_left
  intro x hx
  have := h x hx
  simp
  omega
/-- A row of a text and a term, and its sealing. -/
def rowT (T : List Nd) (b : ByteArray) (s : Int) : List Nd × Int := makeT (textT T b).1 3 [(textT T b).2, s]
def tickT (T : List Nd) (key : Int) (b : ByteArray) (s : Int) : List Nd × Int := sealT (rowT T b s).1 key ticketS (rowT T b s).2
theorem issueT_yes {T : List Nd} {key v t l s : Int} (h : ¬ (sizeV v = 0 ∨ sizeV t = 0 ∨ sizeV l = 0)) : issueT T key v t l s = tickT T key (strOfNums (textV v t l)) s := if_neg h
theorem issueT_no {T : List Nd} {key v t l s : Int} (h : sizeV v = 0 ∨ sizeV t = 0 ∨ sizeV l = 0) : issueT T key v t l s = (T, 0) := if_pos h
def SealAt (T : List Nd) (x key : Int) (hd : ByteArray) (c : Int) : Prop := ∃ h0, getT T x = some ⟨10, ByteArray.empty, [key, h0, c]⟩ ∧ getT T h0 = some (nT hd)
theorem SealAt.ext {n : Nat} {T T' : List Nd} {x key c : Int} {hd : ByteArray} (h : SealAt T x key hd c) (e : Ext n T T') : SealAt T' x key hd c := by
  obtain ⟨h0, h1, h2⟩ := h
  exact ⟨h0, e.get h1, e.get h2⟩
theorem SealAt.in_ {T : List Nd} {x key c : Int} {hd : ByteArray} (h : SealAt T x key hd c) : In T x := by
  obtain ⟨h0, h1, h2⟩ := h
  exact ⟨_, h1⟩
theorem SealAt.open_ {T : List Nd} {x key c key' : Int} {hd hd' : ByteArray} (h : SealAt T x key hd c) : openV T key' hd' x = openT key c key' hd hd' := by
  obtain ⟨h0, h1, h2⟩ := h
  exact openV_at h1 h2
theorem sealT_ext (T : List Nd) (k : Int) (hd : ByteArray) (c : Int) : Ext 2 T (sealT T k hd c).1 := (textT_ext _ _).trans (makeT_ext _ _ _)
theorem seal_at {T : List Nd} {k c : Int} {hd : ByteArray} (hw : WfT T) (hl : hd.size ≤ 2048) (hT : T.length < 50000) (hk : In T k) (hc : In T c) : SealAt (sealT T k hd c).1 (sealT T k hd c).2 k hd c := by
  obtain ⟨n1, e1⟩ := hk
  obtain ⟨n2, e2⟩ := hc
  have g1 := (hw.get e1).kind
  have g2 := (hw.get e2).kind
  exact sealT_spec hl (by omega) e1 (by omega) e2 (by omega)
theorem row_at {T : List Nd} {b : ByteArray} {s : Int} (hw : WfT T) (hb : b.size ≤ 2048) (hT : T.length < 50000) (hs : In T s) : ∃ tx, getT (rowT T b s).1 (rowT T b s).2 = some ⟨3, ByteArray.empty, [tx, s]⟩ ∧ getT (rowT T b s).1 tx = some (nT b) ∧ Ext 2 T (rowT T b s).1 ∧ WfT (rowT T b s).1 := by
  have k1 := text_get (T := T) (b := b) hb (by omega)
  have x1 := textT_ext T b
  have w1 := wf_text hw b
  have l1 := x1.len
  unfold rowT
  generalize (textT T b).1 = T1 at *
  generalize (textT T b).2 = tx at *
  have k2 := make_row w1 (by omega) (p := [tx, s]) (by simp; exact ⟨.of k1, hs.ext x1⟩) (by simp)
  have x2 := makeT_ext T1 3 [tx, s]
  exact ⟨tx, k2, x2.get k1, x1.trans x2, wf_make w1 3 [tx, s]⟩
/-- All that is known of a sealed row. -/
structure TickAt (T : List Nd) (h key : Int) (b : ByteArray) (s row tx : Int) : Prop where
  sl : SealAt T h key ticketS row
  row : getT T row = some ⟨3, ByteArray.empty, [tx, s]⟩
  text : getT T tx = some (nT b)
theorem TickAt.ext {n : Nat} {T T' : List Nd} {h key s row tx : Int} {b : ByteArray} (a : TickAt T h key b s row tx) (e : Ext n T T') : TickAt T' h key b s row tx := ⟨a.sl.ext e, e.get a.row, e.get a.text⟩
theorem tick_at {T : List Nd} {key s : Int} {b : ByteArray} (hw : WfT T) (hb : b.size ≤ 2048) (hT : T.length < 40000) (hk : In T key) (hs : In T s) :
    ∃ row tx, TickAt (tickT T key b s).1 (tickT T key b s).2 key b s row tx ∧ Ext 4 T (tickT T key b s).1 := by
  obtain ⟨tx, r1, r2, x1, w1⟩ := row_at (b := b) (s := s) hw hb (by omega) hs
  have l1 := x1.len
  unfold tickT
  have sa := seal_at (hd := ticketS) w1 (by decide) (by omega) (hk.ext x1) (.of r1)
  have x2 := sealT_ext (rowT T b s).1 key ticketS (rowT T b s).2
  exact ⟨_, tx, ⟨sa, x2.get r1, x2.get r2⟩, x1.trans x2⟩
theorem TickAt.redeem {T : List Nd} {h key s row tx now : Int} {b : ByteArray} (a : TickAt T h key b s row tx) : redeemV T key h now = timeV (readT (numsL b)) s now := by
  unfold redeemV
  rw [a.sl.open_]
  have e : openT key row key ticketS ticketS = (row, true) := if_pos ⟨rfl, rfl⟩
  rw [e]
  show rowV T row now = _
  rw [rowV_row a.row]
  have e2 : nodeT T tx = nT b := by unfold nodeT; rw [a.text]; rfl
  rw [e2]
  exact congrArg (fun r => timeV r s now) (if_pos rfl)
theorem TickAt.pos {T : List Nd} {h key s row tx : Int} {b : ByteArray} (a : TickAt T h key b s row tx) : h ≠ 0 := by
  have := a.sl.in_.range
  omega
theorem text_size {v t l : Int} : (strOfNums (textV v t l)).size ≤ 24 := by
  rw [strOfNums_size]
  by_cases h : sizeV v = 0 ∨ sizeV t = 0 ∨ sizeV l = 0
  · rw [textV_no h]; simp
  · rw [textV_len h]
    have := sizeV_le v
    have := sizeV_le t
    have := sizeV_le l
    omega
theorem issue_at {T : List Nd} {key v t l s : Int} (hw : WfT T) (hT : T.length < 40000) (hk : In T key) (hs : In T s) (h : ¬ (sizeV v = 0 ∨ sizeV t = 0 ∨ sizeV l = 0)) :
    ∃ row tx, TickAt (issueT T key v t l s).1 (issueT T key v t l s).2 key (strOfNums (textV v t l)) s row tx ∧ Ext 4 T (issueT T key v t l s).1 := by
  rw [issueT_yes h]
  exact tick_at hw (by have := text_size (v := v) (t := t) (l := l); omega) hT hk hs
theorem TickAt.redeemN {T : List Nd} {h key s row tx now v t l : Int} (hs : ¬ (sizeV v = 0 ∨ sizeV t = 0 ∨ sizeV l = 0)) (a : TickAt T h key (strOfNums (textV v t l)) s row tx) : redeemV T key h now = timeV (some (v, t, l)) s now := by
  rw [a.redeem, numsL_str (textV_byt v t l), readT_textV hs]
end Go.Proofs.YtmaedahleenlgaaDoor
