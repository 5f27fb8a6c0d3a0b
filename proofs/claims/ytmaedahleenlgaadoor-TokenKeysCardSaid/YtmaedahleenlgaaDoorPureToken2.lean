/- Own texts, one behind the other. Each bears its own remark. -/
import Derived.Test.YtmaedahleenlgaaDoorPureTicket
import Derived.Test.YtmaedahleenlgaaDoorPureParams
import Derived.Test.YtmaedahleenlgaaDoorPureTicket2
/- Plain: a token's bytes, and what bytes say (layer 16). No condition. -/
set_option linter.unusedVariables false
set_option linter.unusedSimpArgs false
namespace Go.Proofs.YtmaedahleenlgaaDoor
open Go Go.RowKit

/-- What a token says. -/
structure Tok where
  later : Bool
  addr : Int
  time : Int
  name : List Int
  deriving DecidableEq
def tok0 : Tok := ⟨false, 0, 0, []⟩
def badTok (x : Tok) : Prop := sizeV x.addr = 0 ∨ sizeV x.time = 0 ∨ 20 < x.name.length
instance (x : Tok) : Decidable (badTok x) := inferInstanceAs (Decidable (_ ∨ _ ∨ _))
def markB (b : Bool) : Int := if b then 1 else 0
def tokB (x : Tok) : List Int := if badTok x then [] else markB x.later :: (varB x.addr ++ varB x.time ++ giveB x.name)
theorem tokB_no {x : Tok} (h : badTok x) : tokB x = [] := if_pos h
theorem tokB_yes {x : Tok} (h : ¬ badTok x) : tokB x = markB x.later :: (varB x.addr ++ varB x.time ++ giveB x.name) := if_neg h
/-- Bytes behind their length, what stands behind them, an error's number. -/
def takeV (xs : List Int) : List Int × List Int × Int :=
  if (readV xs).2.2 ≠ 0 then ([], [], (readV xs).2.2)
  else if (xs.length : Int) - (readV xs).2.1 < (readV xs).1 then ([], [], 2)
  else ((xs.drop (readV xs).2.1).take (readV xs).1.toNat, xs.drop ((readV xs).2.1 + (readV xs).1.toNat), 0)
theorem takeV_err {xs : List Int} (h : (readV xs).2.2 ≠ 0) : takeV xs = ([], [], (readV xs).2.2) := if_pos h
theorem takeV_short {xs : List Int} (h : (readV xs).2.2 = 0) (h1 : (xs.length : Int) - (readV xs).2.1 < (readV xs).1) : takeV xs = ([], [], 2) := by
  unfold takeV; rw [if_neg (by simp [h]), if_pos h1]
theorem takeV_ok {xs : List Int} (h : (readV xs).2.2 = 0) (h1 : ¬ (xs.length : Int) - (readV xs).2.1 < (readV xs).1) : takeV xs = ((xs.drop (readV xs).2.1).take (readV xs).1.toNat, xs.drop ((readV xs).2.1 + (readV xs).1.toNat), 0) := by
  unfold takeV; rw [if_neg (by simp [h]), if_neg h1]
theorem byt_take {xs : List Int} (h : Byt xs) (n : Nat) : Byt (xs.take n) := fun x hx => h x (List.mem_of_mem_take hx)
theorem byt_drop {xs : List Int} (h : Byt xs) (n : Nat) : Byt (xs.drop n) := fun x hx => h x (List.mem_of_mem_drop hx)
theorem takeV_byt {xs : List Int} (h : Byt xs) : Byt (takeV xs).1 ∧ Byt (takeV xs).2.1 := by
  unfold takeV
  split
  · exact ⟨fun x hx => by simp at hx, fun x hx => by simp at hx⟩
  · split
    · exact ⟨fun x hx => by simp at hx, fun x hx => by simp at hx⟩
    · exact ⟨byt_take (byt_drop h _) _, byt_drop h _⟩
theorem takeV_giveB (nm r : List Int) (h : nm.length ≤ 4611686018427387903) : takeV (giveB nm ++ r) = (nm, r, 0) := by
  have hs : sizeV (nm.length : Int) ≠ 0 := sizeV_pos.2 ⟨by omega, by omega⟩
  have e : readV (giveB nm ++ r) = ((nm.length : Int), sizeV nm.length, 0) := by
    unfold giveB
    rw [List.append_assoc]
    exact readV_varB hs _
  have hl : (giveB nm ++ r).length = sizeV (nm.length : Int) + nm.length + r.length := by simp [giveB, varB_len]; omega
  rw [takeV_ok (by rw [e]) (by rw [e, hl]; simp only; omega), e]
  simp only [Int.toNat_natCast]
  have e2 : giveB nm ++ r = varB (nm.length : Int) ++ (nm ++ r) := by unfold giveB; rw [List.append_assoc]
  have e3 : (giveB nm ++ r).drop (sizeV (nm.length : Int)) = nm ++ r := by rw [e2, ← varB_len, List.drop_left]
  rw [e3, ← List.drop_drop, e3]
  simp
/-- The three parts of what bytes say. -/
def kd1 (xs : List Int) : Int × Nat × Int := readV (xs.drop 1)
def kd2 (xs : List Int) : Int × Nat × Int := readV (xs.drop (1 + (kd1 xs).2.1))
def kd3 (xs : List Int) : List Int × List Int × Int := takeV (xs.drop (1 + (kd1 xs).2.1 + (kd2 xs).2.1))
def kdOk (xs : List Int) : Prop := (0 < xs.length ∧ nth xs 0 ≤ 1) ∧ (kd1 xs).2.2 = 0 ∧ (kd2 xs).2.2 = 0 ∧ (kd3 xs).2.2 = 0 ∧ (kd3 xs).2.1.length = 0 ∧ (kd3 xs).1.length ≤ 20
instance (xs : List Int) : Decidable (kdOk xs) := by unfold kdOk; infer_instance
def readK (xs : List Int) : Option Tok := if kdOk xs then some ⟨decide (nth xs 0 = 1), (kd1 xs).1, (kd2 xs).1, (kd3 xs).1⟩ else none
theorem readK_no {xs : List Int} (h : ¬ kdOk xs) : readK xs = none := if_neg h
theorem readK_yes {xs : List Int} (h : kdOk xs) : readK xs = some ⟨decide (nth xs 0 = 1), (kd1 xs).1, (kd2 xs).1, (kd3 xs).1⟩ := if_pos h
theorem tokB_len {x : Tok} (h : ¬ badTok x) : (tokB x).length ≤ 45 ∧ 0 < (tokB x).length := by
  rw [tokB_yes h]
  have := sizeV_le x.addr
  have := sizeV_le x.time
  have := sizeV_le x.name.length
  have : ¬ 20 < x.name.length := fun k => h (.inr (.inr k))
  simp [giveB, varB_len]
  omega
theorem giveB_byt {nm : List Int} (h : Byt nm) : Byt (giveB nm) := by
  intro x hx
  rcases List.mem_append.1 hx with hx | hx
  · exact varB_byt _ x hx
  · exact h x hx
theorem tokB_byt {x : Tok} (h : Byt x.name) : Byt (tokB x) := by
  unfold tokB
  split
  · intro y hy; simp at hy
  · intro y hy
    simp only [List.mem_cons, List.mem_append] at hy
    rcases hy with rfl | (hy | hy) | hy
    · unfold markB; split <;> decide
    · exact varB_byt _ y hy
    · exact varB_byt _ y hy
    · exact giveB_byt h y hy
theorem readK_tokB {x : Tok} (h : ¬ badTok x) : readK (tokB x) = some x := by
  have ha : sizeV x.addr ≠ 0 := fun k => h (.inl k)
  have ht : sizeV x.time ≠ 0 := fun k => h (.inr (.inl k))
  have hn : x.name.length ≤ 20 := by have : ¬ 20 < x.name.length := fun k => h (.inr (.inr k)); omega
  have e := tokB_yes h
  have d1 : (tokB x).drop 1 = varB x.addr ++ (varB x.time ++ giveB x.name) := by rw [e, List.drop_succ_cons, List.drop_zero, List.append_assoc]
  have r1 : kd1 (tokB x) = (x.addr, sizeV x.addr, 0) := by
    unfold kd1; rw [d1]; exact readV_varB ha _
  have d2 : (tokB x).drop (1 + sizeV x.addr) = varB x.time ++ giveB x.name := by
    rw [← List.drop_drop, d1, ← varB_len, List.drop_left]
  have r2 : kd2 (tokB x) = (x.time, sizeV x.time, 0) := by
    unfold kd2; rw [r1]; show readV ((tokB x).drop (1 + sizeV x.addr)) = _; rw [d2]; exact readV_varB ht _
  have d3 : (tokB x).drop (1 + sizeV x.addr + sizeV x.time) = giveB x.name := by
    rw [← List.drop_drop, d2, ← varB_len x.time, List.drop_left]
  have r3 : kd3 (tokB x) = (x.name, [], 0) := by
    unfold kd3; rw [r1, r2]; show takeV ((tokB x).drop (1 + sizeV x.addr + sizeV x.time)) = _; rw [d3]
    have := takeV_giveB x.name [] (by omega)
    rwa [List.append_nil] at this
  have n0 : nth (tokB x) 0 = markB x.later := by rw [e]; rfl
  rw [readK_yes ⟨⟨(tokB_len h).2, by rw [n0]; unfold markB; split <;> decide⟩, by rw [r1], by rw [r2], by rw [r3], by rw [r3]; rfl, by rw [r3]; exact hn⟩, r1, r2, r3, n0]
  cases x with
  | mk l a t nm => cases l <;> rfl
theorem tokB_inj {x y : Tok} (hx : ¬ badTok x) (hy : ¬ badTok y) (h : tokB x = tokB y) : x = y := by
  have := readK_tokB hx
  rw [h, readK_tokB hy] at this
  exact (Option.some.inj this).symm
theorem readK_range {xs : List Int} {x : Tok} (h : readK xs = some x) : (0 ≤ x.addr ∧ x.addr ≤ 4611686018427387903) ∧ (0 ≤ x.time ∧ x.time ≤ 4611686018427387903) ∧ x.name.length ≤ 20 := by
  unfold readK at h
  split at h
  · rename_i k
    obtain rfl := Option.some.inj h
    obtain ⟨-, k1, k2, -, -, k5⟩ := k
    have f : ∀ ys : List Int, (readV ys).2.2 = 0 → 0 ≤ (readV ys).1 ∧ (readV ys).1 ≤ 4611686018427387903 := fun ys q => by
      obtain ⟨-, q2, q3⟩ := rd_ok q
      exact sizeV_pos.1 (by omega)
    exact ⟨f _ k1, f _ k2, k5⟩
  · cases h
theorem readK_byt {xs : List Int} {x : Tok} (hb : Byt xs) (h : readK xs = some x) : Byt x.name := by
  unfold readK at h
  split at h
  · obtain rfl := Option.some.inj h
    exact (takeV_byt (byt_drop hb _)).1
  · cases h
/-- An error's number of a token for an address at a time. -/
def rightK (x : Tok) (addr now life : Int) : Int := if x.addr ≠ addr then 14 else if now < x.time ∨ life < now - x.time then 9 else 0
end Go.Proofs.YtmaedahleenlgaaDoor

/- What a minted token is, and what it is looked at as (layer 16). Plain. -/
set_option linter.unusedVariables false
set_option linter.unusedSimpArgs false
namespace Go.Proofs.YtmaedahleenlgaaDoor
open Go Go.RowKit

def tokenL : List Int := [116, 111, 107, 101, 110]
def tokenS : ByteArray := ⟨#[116, 111, 107, 101, 110]⟩
theorem token_str : strOfNums tokenL = tokenS := by decide
/-- The sealing of some bytes as a token. -/
def tokT (T : List Nd) (key : Int) (b : ByteArray) : List Nd × Int := sealT (textT T b).1 key tokenS (textT T b).2
def mintT (T : List Nd) (key : Int) (x : Tok) : List Nd × Int := if badTok x then (T, 0) else tokT T key (strOfNums (tokB x))
theorem mintT_no {T : List Nd} {key : Int} {x : Tok} (h : badTok x) : mintT T key x = (T, 0) := if_pos h
theorem mintT_yes {T : List Nd} {key : Int} {x : Tok} (h : ¬ badTok x) : mintT T key x = tokT T key (strOfNums (tokB x)) := if_neg h
/-- What a term's text says. -/
def nodeK (n : Nd) : Option Tok := if n.kind = 1 then readK (numsL n.text) else none
def lookK (T : List Nd) (key h : Int) : Option Tok := nodeK (nodeT T (openV T key tokenS h).1)
def lookE (T : List Nd) (key h : Int) : Int := if (lookK T key h).isSome then 0 else 14
def lookX (T : List Nd) (key h : Int) : Tok := (lookK T key h).getD tok0
/-- A check's answer. -/
def checkE (r : Option Tok) (addr now life : Int) : Int := match r with | some x => rightK x addr now life | none => 14
def checkX (r : Option Tok) (addr now life : Int) : Tok := if checkE r addr now life = 0 then r.getD tok0 else tok0
/-- All that is known of a sealed text. -/
structure TokAt (T : List Nd) (h key : Int) (b : ByteArray) (tx : Int) : Prop where
  sl : SealAt T h key tokenS tx
  text : getT T tx = some (nT b)
theorem TokAt.ext {n : Nat} {T T' : List Nd} {h key tx : Int} {b : ByteArray} (a : TokAt T h key b tx) (e : Ext n T T') : TokAt T' h key b tx := ⟨a.sl.ext e, e.get a.text⟩
theorem tok_at {T : List Nd} {key : Int} {b : ByteArray} (hw : WfT T) (hb : b.size ≤ 2048) (hT : T.length < 40000) (hk : In T key) :
    ∃ tx, TokAt (tokT T key b).1 (tokT T key b).2 key b tx ∧ Ext 3 T (tokT T key b).1 ∧ WfT (textT T b).1 := by
  have k1 := text_get (T := T) (b := b) hb (by omega)
  have x1 := textT_ext T b
  have w1 := wf_text hw b
  have l1 := x1.len
  unfold tokT
  generalize (textT T b).1 = T1 at *
  generalize (textT T b).2 = tx at *
  have sa := seal_at (hd := tokenS) w1 (by decide) (by omega) (hk.ext x1) (.of k1)
  have x2 := sealT_ext T1 key tokenS tx
  exact ⟨tx, ⟨sa, x2.get k1⟩, x1.trans x2, w1⟩
theorem TokAt.look {T : List Nd} {h key tx : Int} {b : ByteArray} (a : TokAt T h key b tx) : lookK T key h = readK (numsL b) := by
  unfold lookK
  rw [a.sl.open_]
  have e : openT key tx key tokenS tokenS = (tx, true) := if_pos ⟨rfl, rfl⟩
  rw [e]
  have e2 : nodeT T tx = nT b := by unfold nodeT; rw [a.text]; rfl
  show nodeK (nodeT T tx) = _
  rw [e2]
  exact if_pos rfl
theorem TokAt.pos {T : List Nd} {h key tx : Int} {b : ByteArray} (a : TokAt T h key b tx) : h ≠ 0 := by
  have := a.sl.in_.range
  omega
theorem mint_at {T : List Nd} {key : Int} {x : Tok} (hw : WfT T) (hT : T.length < 40000) (hk : In T key) (h : ¬ badTok x) :
    ∃ tx, TokAt (mintT T key x).1 (mintT T key x).2 key (strOfNums (tokB x)) tx ∧ Ext 3 T (mintT T key x).1 := by
  rw [mintT_yes h]
  obtain ⟨tx, a, b, -⟩ := tok_at (b := strOfNums (tokB x)) hw (by rw [strOfNums_size]; have := tokB_len h; omega) hT hk
  exact ⟨tx, a, b⟩
theorem TokAt.lookN {T : List Nd} {h key tx : Int} {x : Tok} (hx : ¬ badTok x) (hb : Byt x.name) (a : TokAt T h key (strOfNums (tokB x)) tx) : lookK T key h = some x := by
  rw [a.look, numsL_str (tokB_byt hb), readK_tokB hx]
/-- Two sealed texts are one term just if their bytes are the same. -/
theorem TokAt.same {T : List Nd} (hw : WfT T) {h h' key tx tx' : Int} {b b' : ByteArray} (a : TokAt T h key b tx) (a' : TokAt T h' key b' tx') : h = h' ↔ b = b' := by
  obtain ⟨⟨p, e1, e2⟩, e3⟩ := a
  obtain ⟨⟨p', f1, f2⟩, f3⟩ := a'
  constructor
  · rintro rfl
    have := getT_fun e1 f1
    simp only [Nd.mk.injEq, List.cons.injEq, and_true, true_and] at this
    obtain ⟨-, rfl⟩ := this
    exact nT_inj (getT_fun e3 f3)
  · rintro rfl
    obtain rfl := text_uniq hw e3 f3
    obtain rfl := text_uniq hw e2 f2
    exact getT_uniq hw e1 f1 (by simp)
end Go.Proofs.YtmaedahleenlgaaDoor
