/- Own texts, one behind the other. Each bears its own remark. -/
import Derived.Test.YtbfgoojpbhlboaaDoorCompact
import Derived.Test.YtbfgoojpbhlboaaDoorPureVar
import Derived.Test.YtbfgoojpbhlboaaDoorPureIdeal
/- Plain: params and their bytes (layer 7). No condition. -/
set_option linter.unusedVariables false
set_option linter.unusedSimpArgs false
namespace Go.Proofs.YtbfgoojpbhlboaaDoor
open Go Go.RowKit

structure Par where
  idle : Int
  data : Int
  hg : Bool
  ho : Bool
  hr : Bool
  goal : List Int
  own : List Int
  retry : List Int
  chosen : Int
  vs : List Int
/-- May a number be a version? -/
def verOk (n : Int) : Prop := 1 ≤ n ∧ n < 4294967296
instance (n : Int) : Decidable (verOk n) := inferInstanceAs (Decidable (_ ∧ _))
def nameOk (there : Bool) (b : List Int) : Prop := b.length ≤ 20 ∧ (there = true ∨ b.length = 0)
instance (t : Bool) (b : List Int) : Decidable (nameOk t b) := inferInstanceAs (Decidable (_ ∧ _))
def rightP (p : Par) : Prop := (sizeV p.idle ≠ 0 ∧ sizeV p.data ≠ 0 ∧ verOk p.chosen) ∧ (nameOk p.hg p.goal ∧ nameOk p.ho p.own ∧ nameOk p.hr p.retry) ∧ p.vs.length ≤ 16 ∧ (∀ v ∈ p.vs, verOk v) ∧ p.vs.Nodup
instance (p : Par) : Decidable (rightP p) := by unfold rightP; infer_instance
def bigB (n : Int) : List Int := [n / 16777216 % 256, n / 65536 % 256, n / 256 % 256, n % 256]
def bigL (l : List Int) : List Int := l.flatMap bigB
def giveB (b : List Int) : List Int := varB b.length ++ b
def fieldB (n : Int) (b : List Int) : List Int := varB n ++ giveB b
def nameB (n : Int) (there : Bool) (b : List Int) : List Int := if there then fieldB n b else []
def writeB (p : Par) : List Int :=
  nameB 0 p.hg p.goal ++ fieldB 1 (varB p.idle) ++ fieldB 4 (varB p.data) ++ nameB 15 p.ho p.own ++ nameB 16 p.hr p.retry ++ fieldB 17 (bigL (p.chosen :: p.vs))
def writeP (p : Par) : List Int := if rightP p then writeB p else []
theorem bigB_len (n : Int) : (bigB n).length = 4 := rfl
theorem bigL_len : ∀ l : List Int, (bigL l).length = 4 * l.length
  | [] => rfl
  | a :: l => by
    have := bigL_len l
    unfold bigL at this ⊢
    rw [List.flatMap_cons, List.length_append, this, bigB_len, List.length_cons]
    omega
theorem bigL_snoc (l : List Int) (a : Int) : bigL (l ++ [a]) = bigL l ++ bigB a := by simp [bigL]
theorem bigB_byt (n : Int) : Byt (bigB n) := by
  intro x hx
  simp only [bigB, List.mem_cons, List.mem_nil_iff, or_false] at hx
  rcases hx with h | h | h | h <;> subst h <;> omega
theorem nth_get {l : List Int} {j : Nat} (h : j < l.length) : nth l j = l[j] := Option.some.inj ((nth_lt h).symm.trans (List.getElem?_eq_getElem h))
/-- What the reference's two loops ask. -/
theorem nodup_nth {l : List Int} : (∀ i, i < l.length → verOk (nth l i) ∧ ∀ k, k < i → nth l k ≠ nth l i) ↔ (∀ v ∈ l, verOk v) ∧ l.Nodup := by
  constructor
  · intro h
    refine ⟨fun v hv => ?_, ?_⟩
    · obtain ⟨i, hi, rfl⟩ := List.getElem_of_mem hv
      have := (h i hi).1
      rwa [nth_get hi] at this
    · rw [List.nodup_iff_pairwise_ne, List.pairwise_iff_getElem]
      intro i j hi hj hij
      have := (h j hj).2 i hij
      rwa [nth_get hi, nth_get hj] at this
  · rintro ⟨h1, h2⟩ i hi
    rw [List.nodup_iff_pairwise_ne, List.pairwise_iff_getElem] at h2
    refine ⟨by rw [nth_get hi]; exact h1 _ (List.getElem_mem hi), fun k hk => ?_⟩
    rw [nth_get hi, nth_get (by omega : k < l.length)]
    exact h2 k i (by omega) hi hk
end Go.Proofs.YtbfgoojpbhlboaaDoor

/- Plain: bytes behind their length. No condition. -/
set_option linter.unusedVariables false
set_option linter.unusedSimpArgs false
namespace Go.Proofs.YtbfgoojpbhlboaaDoor
open Go Go.RowKit

/-- Bytes behind their length, what stands behind them, an error's number. -/
def takeV (xs : List Int) : List Int × List Int × Int :=
  if (readV xs).2.2 ≠ 0 then ([], [], (readV xs).2.2)
  else if (xs.length : Int) - (readV xs).2.1 < (readV xs).1 then ([], [], 2)
  else ((xs.drop (readV xs).2.1).take (readV xs).1.toNat, xs.drop ((readV xs).2.1 + (readV xs).1.toNat), 0)
theorem takeV_err {xs : List Int} (h : (readV xs).2.2 ≠ 0) : takeV xs = ([], [], (readV xs).2.2) := if_pos h
theorem takeV_short {xs : List Int} (h : (readV xs).2.2 = 0) (h1 : (xs.length : Int) - (readV xs).2.1 < (readV xs).1) : takeV xs = ([], [], 2) := by
  unfold takeV; rw [if_neg (by simp [h]), if_pos h1]
theorem takeV_ok {xs : List Int} (h : (readV xs).2.2 = 0) (h1 : ¬ (xs.length : Int) - (readV xs).2.1 < (readV xs).1) : takeV xs = ((xs.drop (readV xs).2.1).take (readV xs).1.toNat, xs.drop ((readV xs).2.1 + (readV xs).1.toNat), 0) := by
  unfold takeV; rw [if_neg (by simp [h]), if_neg h1]
theorem byt_take {xs : List Int} (h : Byt xs) (n : Nat) : Byt (xs.take n) := fun x hx => h x (List.mem_of_mem_take hx)
theorem byt_drop {xs : List Int} (h : Byt xs) (n : Nat) : Byt (xs.drop n) := fun x hx => h x (List.mem_of_mem_drop hx)
theorem takeV_byt {xs : List Int} (h : Byt xs) : Byt (takeV xs).1 ∧ Byt (takeV xs).2.1 := by
  unfold takeV
  split
  · exact ⟨fun x hx => by simp at hx, fun x hx => by simp at hx⟩
  · split
    · exact ⟨fun x hx => by simp at hx, fun x hx => by simp at hx⟩
    · exact ⟨byt_take (byt_drop h _) _, byt_drop h _⟩
theorem takeV_giveB (nm r : List Int) (h : nm.length ≤ 4611686018427387903) : takeV (giveB nm ++ r) = (nm, r, 0) := by
  have hs : sizeV (nm.length : Int) ≠ 0 := sizeV_pos.2 ⟨by omega, by omega⟩
  have e : readV (giveB nm ++ r) = ((nm.length : Int), sizeV nm.length, 0) := by
    unfold giveB
    rw [List.append_assoc]
    exact readV_varB hs _
  have hl : (giveB nm ++ r).length = sizeV (nm.length : Int) + nm.length + r.length := by simp [giveB, varB_len]; omega
  rw [takeV_ok (by rw [e]) (by rw [e, hl]; simp only; omega), e]
  simp only [Int.toNat_natCast]
  have e2 : giveB nm ++ r = varB (nm.length : Int) ++ (nm ++ r) := by unfold giveB; rw [List.append_assoc]
  have e3 : (giveB nm ++ r).drop (sizeV (nm.length : Int)) = nm ++ r := by rw [e2, ← varB_len, List.drop_left]
  rw [e3, ← List.drop_drop, e3]
  simp
end Go.Proofs.YtbfgoojpbhlboaaDoor

/- Plain: what bytes say as params, and that it is what was written (layer 7). No condition. -/
set_option linter.unusedVariables false
set_option linter.unusedSimpArgs false
namespace Go.Proofs.YtbfgoojpbhlboaaDoor
open Go Go.RowKit

/-- What was read begins with the number's own bytes. -/
theorem readV_back {b : List Int} (hb : Byt b) (h : (readV b).2.2 = 0) : b = varB (readV b).1 ++ b.drop (readV b).2.1 := by
  unfold readV at h ⊢
  split at h
  · simp at h
  rename_i h0
  split at h
  · simp at h
  rename_i h1
  split at h
  · simp at h
  rename_i h2
  rw [if_neg h0, if_neg h1, if_neg h2]
  simp only
  have h3 : sizeV (beF (nth b 0 % 64) ((b.take (sizeOfB (nth b 0))).drop 1)) = sizeOfB (nth b 0) := Classical.byContradiction fun k => h2 k
  clear h h2
  cases b with
  | nil => simp at h0
  | cons y r =>
    have hy := hb y (by simp)
    simp only [nth, List.getD_cons_zero] at h1 h3 ⊢
    by_cases c1 : y < 64
    · have e : sizeOfB y = 1 := if_pos c1
      rw [e] at h3 ⊢
      have e2 : beF (y % 64) ((List.take 1 (y :: r)).drop 1) = y := by simp [beF]; omega
      rw [e2] at h3 ⊢
      rw [varB_one h3]; rfl
    by_cases c2 : y < 128
    · have e : sizeOfB y = 2 := by unfold sizeOfB; rw [if_neg c1, if_pos c2]
      rw [e] at h1 h3 ⊢
      match r, h1, hb with
      | [], h1, hb => simp at h1
      | x :: r, h1, hb =>
        have hx := hb x (by simp)
        have e2 : beF (y % 64) ((List.take 2 (y :: x :: r)).drop 1) = (y - 64) * 256 + x := by simp [beF]; omega
        rw [e2] at h3 ⊢
        rw [varB_two h3]
        have a1 : ((y - 64) * 256 + x) / 256 + 64 = y := by omega
        have a2 : ((y - 64) * 256 + x) % 256 = x := by omega
        rw [a1, a2]; rfl
    by_cases c3 : y < 192
    · have e : sizeOfB y = 4 := by unfold sizeOfB; rw [if_neg c1, if_neg c2, if_pos c3]
      rw [e] at h1 h3 ⊢
      match r, h1, hb with
      | [], h1, hb => simp at h1
      | [_], h1, hb => simp at h1
      | [_, _], h1, hb => simp at h1
      | x :: u :: v :: r, h1, hb =>
        have hx := hb x (by simp)
        have hu := hb u (by simp)
        have hv := hb v (by simp)
        have e2 : beF (y % 64) ((List.take 4 (y :: x :: u :: v :: r)).drop 1) = (((y - 128) * 256 + x) * 256 + u) * 256 + v := by simp [beF]; omega
        rw [e2] at h3 ⊢
        rw [varB_four h3]
        have a1 : ((((y - 128) * 256 + x) * 256 + u) * 256 + v) / 16777216 + 128 = y := by omega
        have a2 : ((((y - 128) * 256 + x) * 256 + u) * 256 + v) / 65536 % 256 = x := by omega
        have a3 : ((((y - 128) * 256 + x) * 256 + u) * 256 + v) / 256 % 256 = u := by omega
        have a4 : ((((y - 128) * 256 + x) * 256 + u) * 256 + v) % 256 = v := by omega
        rw [a1, a2, a3, a4]; rfl
    · have e : sizeOfB y = 8 := by unfold sizeOfB; rw [if_neg c1, if_neg c2, if_neg c3]
      rw [e] at h1 h3 ⊢
      match r, h1, hb with
      | [], h1, hb => simp at h1
      | [_], h1, hb => simp at h1
      | [_, _], h1, hb => simp at h1
      | [_, _, _], h1, hb => simp at h1
      | [_, _, _, _], h1, hb => simp at h1
      | [_, _, _, _, _], h1, hb => simp at h1
      | [_, _, _, _, _, _], h1, hb => simp at h1
      | x1 :: x2 :: x3 :: x4 :: x5 :: x6 :: x7 :: r, h1, hb =>
        have q1 := hb x1 (by simp)
        have q2 := hb x2 (by simp)
        have q3 := hb x3 (by simp)
        have q4 := hb x4 (by simp)
        have q5 := hb x5 (by simp)
        have q6 := hb x6 (by simp)
        have q7 := hb x7 (by simp)
        obtain ⟨N, hN⟩ : ∃ N, N = (((((((y - 192) * 256 + x1) * 256 + x2) * 256 + x3) * 256 + x4) * 256 + x5) * 256 + x6) * 256 + x7 := ⟨_, rfl⟩
        have e2 : beF (y % 64) ((List.take 8 (y :: x1 :: x2 :: x3 :: x4 :: x5 :: x6 :: x7 :: r)).drop 1) = N := by simp [beF]; omega
        rw [e2] at h3 ⊢
        rw [varB_eight h3]
        have a0 : N / 72057594037927936 + 192 = y := by omega
        have a1 : N / 281474976710656 % 256 = x1 := by omega
        have a2 : N / 1099511627776 % 256 = x2 := by omega
        have a3 : N / 4294967296 % 256 = x3 := by omega
        have a4 : N / 16777216 % 256 = x4 := by omega
        have a5 : N / 65536 % 256 = x5 := by omega
        have a6 : N / 256 % 256 = x6 := by omega
        have a7 : N % 256 = x7 := by omega
        rw [a0, a1, a2, a3, a4, a5, a6, a7]; rfl
theorem takeV_back {b : List Int} (hb : Byt b) (h : (takeV b).2.2 = 0) : b = giveB (takeV b).1 ++ (takeV b).2.1 ∧ (takeV b).1.length + (takeV b).2.1.length ≤ b.length := by
  by_cases h1 : (readV b).2.2 = 0
  · by_cases h2 : (b.length : Int) - (readV b).2.1 < (readV b).1
    · rw [takeV_short h1 h2] at h; simp at h
    · have e := takeV_ok h1 h2
      rw [e]
      simp only
      have hbk := readV_back hb h1
      have hsz := rd_ok h1
      have hn : 0 ≤ (readV b).1 := (sizeV_pos.1 (by omega)).1
      have hl : ((b.drop (readV b).2.1).take (readV b).1.toNat).length = (readV b).1.toNat := by
        rw [List.length_take, List.length_drop]; omega
      refine ⟨?_, by rw [hl, List.length_drop]; omega⟩
      unfold giveB
      rw [hl, show (((readV b).1.toNat : Nat) : Int) = (readV b).1 from by omega, List.append_assoc]
      rw [← List.drop_drop, List.take_append_drop]
      exact hbk
  · rw [takeV_err h1] at h; exact absurd h h1
/-- What all of some bytes are as a number. -/
def numV (v : List Int) : Option Int := if (readV v).2.2 = 0 ∧ (readV v).2.1 = v.length then some (readV v).1 else none
theorem numV_varB {n : Int} (h : sizeV n ≠ 0) : numV (varB n) = some n := by
  have e := readV_varB h []
  rw [List.append_nil] at e
  unfold numV
  rw [e, varB_len]
  simp
theorem numV_back {v : List Int} (hb : Byt v) {n : Int} (h : numV v = some n) : v = varB n ∧ sizeV n ≠ 0 := by
  unfold numV at h
  split at h
  · rename_i hh
    obtain ⟨h1, h2⟩ := hh
    have e := readV_back hb h1
    have := rd_ok h1
    cases h
    rw [h2, List.drop_length, List.append_nil] at e
    exact ⟨e, by omega⟩
  · cases h
/-- The k-th number of four bytes. -/
def be4at (v : List Int) (k : Nat) : Int := ((nth v (4 * k) * 256 + nth v (4 * k + 1)) * 256 + nth v (4 * k + 2)) * 256 + nth v (4 * k + 3)
def versL (v : List Int) : List Int := (List.range (v.length / 4)).map (be4at v)
theorem versL_len (v : List Int) : (versL v).length = v.length / 4 := by simp [versL]
theorem versL_cons (a b c d : Int) (r : List Int) : versL (a :: b :: c :: d :: r) = (((a * 256 + b) * 256 + c) * 256 + d) :: versL r := by
  unfold versL
  have e : (a :: b :: c :: d :: r).length / 4 = r.length / 4 + 1 := by simp only [List.length_cons]; omega
  rw [e, List.range_succ_eq_map, List.map_cons, List.map_map]
  congr 1
theorem versL_bigL : ∀ {l : List Int}, (∀ v ∈ l, 0 ≤ v ∧ v ≤ 4294967295) → versL (bigL l) = l
  | [], _ => rfl
  | x :: l, h => by
    have hx := h x (by simp)
    have ih := versL_bigL (l := l) fun v hv => h v (by simp [hv])
    have e : bigL (x :: l) = x / 16777216 % 256 :: x / 65536 % 256 :: x / 256 % 256 :: x % 256 :: bigL l := rfl
    rw [e, versL_cons, ih]
    congr 1
    omega
theorem bigL_versL : ∀ (k : Nat) {v : List Int}, v.length = 4 * k → Byt v → bigL (versL v) = v ∧ ∀ x ∈ versL v, 0 ≤ x ∧ x ≤ 4294967295
  | 0, v, h, _ => by
    have : v = [] := List.eq_nil_of_length_eq_zero h
    subst this
    exact ⟨rfl, fun x hx => by simp [versL] at hx⟩
  | k + 1, v, h, hb => by
    match v, h, hb with
    | a :: b :: c :: d :: r, h, hb =>
      have ha := hb a (by simp)
      have hb' := hb b (by simp)
      have hc := hb c (by simp)
      have hd := hb d (by simp)
      obtain ⟨ih1, ih2⟩ := bigL_versL k (v := r) (by simp at h; omega) (fun x hx => hb x (by simp [hx]))
      rw [versL_cons]
      have e : ∀ x l, bigL (x :: l) = x / 16777216 % 256 :: x / 65536 % 256 :: x / 256 % 256 :: x % 256 :: bigL l := fun _ _ => rfl
      rw [e, ih1]
      refine ⟨?_, fun x hx => ?_⟩
      · have a1 : (((a * 256 + b) * 256 + c) * 256 + d) / 16777216 % 256 = a := by omega
        have a2 : (((a * 256 + b) * 256 + c) * 256 + d) / 65536 % 256 = b := by omega
        have a3 : (((a * 256 + b) * 256 + c) * 256 + d) / 256 % 256 = c := by omega
        have a4 : (((a * 256 + b) * 256 + c) * 256 + d) % 256 = d := by omega
        rw [a1, a2, a3, a4]
      · rcases List.mem_cons.1 hx with rfl | hx
        · omega
        · exact ih2 x hx
/-- One field is set. -/
def setP (p : Par) (n : Int) (v : List Int) : Option Par :=
  if n = 0 then some { p with hg := true, goal := v }
  else if n = 1 then (numV v).map fun x => { p with idle := x }
  else if n = 4 then (numV v).map fun x => { p with data := x }
  else if n = 15 then some { p with ho := true, own := v }
  else if n = 16 then some { p with hr := true, retry := v }
  else if n = 17 then if 4 ≤ v.length ∧ v.length % 4 = 0 then some { p with chosen := nth (versL v) 0, vs := p.vs ++ (versL v).tail } else none
  else none
/-- How far a reading has come. -/
structure RS where
  p : Par
  last : Int
  a : Bool
  b : Bool
  c : Bool
def par0 : Par := ⟨0, 0, false, false, false, [], [], [], 0, []⟩
def rs0 : RS := ⟨par0, -1, false, false, false⟩
def nextS (s : RS) (n : Int) (p : Par) : RS := ⟨p, n, s.a || decide (n = 1), s.b || decide (n = 4), s.c || decide (n = 17)⟩
def stepS (s : RS) (b : List Int) : Option (RS × List Int) :=
  if (readV b).2.2 = 0 ∧ s.last < (readV b).1 then
    if (takeV (b.drop (readV b).2.1)).2.2 = 0 then (setP s.p (readV b).1 (takeV (b.drop (readV b).2.1)).1).map fun p => (nextS s (readV b).1 p, (takeV (b.drop (readV b).2.1)).2.1)
    else none
  else none
def parseS : Nat → RS → List Int → Option RS
  | _, s, [] => some s
  | 0, _, _ :: _ => none
  | k + 1, s, x :: b => (stepS s (x :: b)).bind fun y => parseS k y.1 y.2
theorem stepS_short {s s' : RS} {b r : List Int} (hb : Byt b) (h : stepS s b = some (s', r)) : r.length < b.length := by
  unfold stepS at h
  split at h
  · rename_i hh
    split at h
    · rename_i hf
      obtain ⟨p, -, e⟩ := Option.map_eq_some_iff.1 h
      have h1 := rd_ok hh.1
      have h2 := takeV_back (b := b.drop (readV b).2.1) (fun x hx => hb x (List.mem_of_mem_drop hx)) hf
      have e2 : (takeV (b.drop (readV b).2.1)).2.1 = r := congrArg Prod.snd e
      rw [e2, List.length_drop] at h2
      omega
    · cases h
  · cases h
/-- What all bytes say, if they are params. -/
def endS (s : RS) : Prop := s.a = true ∧ s.b = true ∧ s.c = true ∧ rightP s.p
instance (s : RS) : Decidable (endS s) := by unfold endS; infer_instance
def readP (b : List Int) : Par × Int :=
  if 500 < b.length then (par0, 4)
  else match parseS b.length rs0 b with
    | some s => if endS s then (s.p, 0) else (par0, 3)
    | none => (par0, 3)
theorem byt_dropR {b : List Int} (h : Byt b) (k : Nat) : Byt (b.drop k) := fun x hx => h x (List.mem_of_mem_drop hx)
theorem takeV_bytR {b : List Int} (h : Byt b) : Byt (takeV b).1 ∧ Byt (takeV b).2.1 := takeV_byt h
/-- The bytes of what has been read so far. -/
def preS (s : RS) : List Int := nameB 0 s.p.hg s.p.goal ++ (if s.a then fieldB 1 (varB s.p.idle) else []) ++ (if s.b then fieldB 4 (varB s.p.data) else []) ++ nameB 15 s.p.ho s.p.own ++ nameB 16 s.p.hr s.p.retry ++ (if s.c then fieldB 17 (bigL (s.p.chosen :: s.p.vs)) else [])
structure FreeS (s : RS) : Prop where
  f0 : s.last < 0 → s.p.hg = false
  f1 : s.last < 1 → s.a = false
  f4 : s.last < 4 → s.b = false
  f15 : s.last < 15 → s.p.ho = false
  f16 : s.last < 16 → s.p.hr = false
  f17 : s.last < 17 → s.c = false ∧ s.p.vs = []
theorem free0 : FreeS rs0 := ⟨fun _ => rfl, fun _ => rfl, fun _ => rfl, fun _ => rfl, fun _ => rfl, fun _ => ⟨rfl, rfl⟩⟩
theorem stepS_parts {s s' : RS} {b r : List Int} (h : stepS s b = some (s', r)) : (readV b).2.2 = 0 ∧ s.last < (readV b).1 ∧ (takeV (b.drop (readV b).2.1)).2.2 = 0 ∧ ∃ p, setP s.p (readV b).1 (takeV (b.drop (readV b).2.1)).1 = some p ∧ s' = nextS s (readV b).1 p ∧ r = (takeV (b.drop (readV b).2.1)).2.1 := by
  unfold stepS at h
  split at h
  · rename_i hh
    split at h
    · rename_i hf
      obtain ⟨p, hp, e⟩ := Option.map_eq_some_iff.1 h
      exact ⟨hh.1, hh.2, hf, p, hp, (congrArg Prod.fst e).symm, (congrArg Prod.snd e).symm⟩
    · cases h
  · cases h
theorem step_back {s s' : RS} {b r : List Int} (hb : Byt b) (hF : FreeS s) (h : stepS s b = some (s', r)) : FreeS s' ∧ preS s' ++ r = preS s ++ b ∧ Byt r := by
  obtain ⟨h1, h2, h3, p, hp, rfl, rfl⟩ := stepS_parts h
  have hd := byt_dropR hb (readV b).2.1
  have e1 := readV_back hb h1
  have e2 := (takeV_back hd h3).1
  obtain ⟨hv, hr⟩ := takeV_bytR hd
  obtain ⟨n, hn⟩ : ∃ n, n = (readV b).1 := ⟨_, rfl⟩
  obtain ⟨v, hvv⟩ : ∃ v, v = (takeV (b.drop (readV b).2.1)).1 := ⟨_, rfl⟩
  obtain ⟨q, hq⟩ : ∃ q, q = (takeV (b.drop (readV b).2.1)).2.1 := ⟨_, rfl⟩
  rw [← hn, ← hvv] at hp
  rw [← hn] at h2
  rw [← hvv] at hv
  have e : b = fieldB n v ++ q := by
    unfold fieldB
    rw [hn, hvv, hq, List.append_assoc, ← e2]
    exact e1
  rw [← hn, ← hq]
  rw [← hq] at hr
  have key : FreeS (nextS s n p) ∧ preS (nextS s n p) = preS s ++ fieldB n v := by
    clear e e1 e2 h1 h3 hq hvv hn hd h hr
    unfold setP at hp
    split at hp
    · rename_i c
      subst c
      cases hp
      have g0 := hF.f0 h2
      have g1 := hF.f1 (by omega)
      have g4 := hF.f4 (by omega)
      have g15 := hF.f15 (by omega)
      have g16 := hF.f16 (by omega)
      have g17 := hF.f17 (by omega)
      refine ⟨⟨fun k => by simp [nextS] at k, fun _ => by simp [nextS, g1], fun _ => by simp [nextS, g4], fun _ => by simp [nextS, g15], fun _ => by simp [nextS, g16], fun _ => by simp [nextS, g17]⟩, ?_⟩
      simp [preS, nextS, nameB, g0, g1, g4, g15, g16, g17]
    split at hp
    · rename_i c
      subst c
      obtain ⟨x, hx, rfl⟩ := Option.map_eq_some_iff.1 hp
      obtain ⟨rfl, -⟩ := numV_back hv hx
      have g1 := hF.f1 h2
      have g4 := hF.f4 (by omega)
      have g15 := hF.f15 (by omega)
      have g16 := hF.f16 (by omega)
      have g17 := hF.f17 (by omega)
      refine ⟨⟨fun k => by simp [nextS] at k, fun k => by simp [nextS] at k, fun _ => by simp [nextS, g4], fun _ => by simp [nextS, g15], fun _ => by simp [nextS, g16], fun _ => by simp [nextS, g17]⟩, ?_⟩
      simp [preS, nextS, nameB, g1, g4, g15, g16, g17]
    split at hp
    · rename_i c
      subst c
      obtain ⟨x, hx, rfl⟩ := Option.map_eq_some_iff.1 hp
      obtain ⟨rfl, -⟩ := numV_back hv hx
      have g4 := hF.f4 h2
      have g15 := hF.f15 (by omega)
      have g16 := hF.f16 (by omega)
      have g17 := hF.f17 (by omega)
      refine ⟨⟨fun k => by simp [nextS] at k, fun k => by simp [nextS] at k, fun k => by simp [nextS] at k, fun _ => by simp [nextS, g15], fun _ => by simp [nextS, g16], fun _ => by simp [nextS, g17]⟩, ?_⟩
      simp [preS, nextS, nameB, g4, g15, g16, g17]
    split at hp
    · rename_i c
      subst c
      cases hp
      have g15 := hF.f15 h2
      have g16 := hF.f16 (by omega)
      have g17 := hF.f17 (by omega)
      refine ⟨⟨fun k => by simp [nextS] at k, fun k => by simp [nextS] at k, fun k => by simp [nextS] at k, fun k => by simp [nextS] at k, fun _ => by simp [nextS, g16], fun _ => by simp [nextS, g17]⟩, ?_⟩
      simp [preS, nextS, nameB, g15, g16, g17]
    split at hp
    · rename_i c
      subst c
      cases hp
      have g16 := hF.f16 h2
      have g17 := hF.f17 (by omega)
      refine ⟨⟨fun k => by simp [nextS] at k, fun k => by simp [nextS] at k, fun k => by simp [nextS] at k, fun k => by simp [nextS] at k, fun k => by simp [nextS] at k, fun _ => by simp [nextS, g17]⟩, ?_⟩
      simp [preS, nextS, nameB, g16, g17]
    split at hp
    · rename_i c
      subst c
      split at hp
      · rename_i hl
        cases hp
        obtain ⟨g17, gv⟩ := hF.f17 h2
        have hbv := (bigL_versL (v.length / 4) (v := v) (by omega) hv).1
        have hne : nth (versL v) 0 :: (versL v).tail = versL v := by
          have hl2 := versL_len v
          cases hh : versL v with
          | nil => rw [hh] at hl2; simp at hl2; omega
          | cons x l => rfl
        refine ⟨⟨fun k => by simp [nextS] at k, fun k => by simp [nextS] at k, fun k => by simp [nextS] at k, fun k => by simp [nextS] at k, fun k => by simp [nextS] at k, fun k => by simp [nextS] at k⟩, ?_⟩
        have e5 : preS (nextS s 17 { s.p with chosen := nth (versL v) 0, vs := s.p.vs ++ (versL v).tail }) = preS s ++ fieldB 17 (bigL (nth (versL v) 0 :: (versL v).tail)) := by simp [preS, nextS, nameB, g17, gv]
        rw [e5, hne, hbv]
      · cases hp
    · cases hp
  refine ⟨key.1, ?_, hr⟩
  rw [key.2, List.append_assoc, ← e]
theorem parse_back : ∀ (k : Nat) (s s' : RS) (b : List Int), FreeS s → Byt b → parseS k s b = some s' → FreeS s' ∧ preS s' = preS s ++ b
  | k, s, s', [], hF, _, h => by
    cases k <;> (simp only [parseS] at h; cases h; exact ⟨hF, by simp⟩)
  | 0, s, s', x :: b, _, _, h => by simp [parseS] at h
  | k + 1, s, s', x :: b, hF, hb, h => by
    simp only [parseS] at h
    obtain ⟨⟨s1, r⟩, h1, h2⟩ := Option.bind_eq_some_iff.1 h
    obtain ⟨g1, g2, g3⟩ := step_back hb hF h1
    obtain ⟨i1, i2⟩ := parse_back k s1 s' r g1 g3 h2
    exact ⟨i1, i2.trans g2⟩
/-- What is read is written as it was. -/
theorem read_write {b : List Int} (hb : Byt b) {p : Par} (h : readP b = (p, 0)) : writeP p = b := by
  unfold readP at h
  split at h
  · simp at h
  cases hs : parseS b.length rs0 b with
  | none => rw [hs] at h; simp at h
  | some s =>
    rw [hs] at h
    simp only at h
    by_cases he : endS s
    · rw [if_pos he] at h
      obtain ⟨e1, e2, e3, hr⟩ := he
      cases h
      have := (parse_back _ _ _ _ free0 hb hs).2
      unfold writeP
      rw [if_pos hr]
      have e0 : preS rs0 = [] := by simp [preS, rs0, par0, nameB]
      rw [e0, List.nil_append] at this
      rw [← this]
      simp [preS, writeB, e1, e2, e3]
    · rw [if_neg he] at h; simp at h
/-- What bytes give from a state on, however much fuel there is. -/
def PS (s : RS) (b : List Int) (X : Option RS) : Prop := ∀ k, b.length ≤ k → parseS k s b = X
theorem PS.nil (s : RS) : PS s [] (some s) := fun k _ => by cases k <;> rfl
theorem PS.field {s : RS} {n : Int} {v r : List Int} {X : Option RS} {p : Par} (hl : s.last < n) (hn : sizeV n ≠ 0) (hv : v.length ≤ 1000) (hp : setP s.p n v = some p) (h : PS (nextS s n p) r X) : PS s (fieldB n v ++ r) X := by
  intro k hk
  have e : fieldB n v ++ r = varB n ++ (giveB v ++ r) := by unfold fieldB; rw [List.append_assoc]
  have e1 : readV (fieldB n v ++ r) = (n, sizeV n, 0) := by rw [e]; exact readV_varB hn _
  have e2 : (fieldB n v ++ r).drop (sizeV n) = giveB v ++ r := by rw [e, ← varB_len, List.drop_left]
  have e3 : takeV (giveB v ++ r) = (v, r, 0) := takeV_giveB v r (by omega)
  have hpos : 0 < (varB n).length := by rw [varB_len]; omega
  have hst : stepS s (fieldB n v ++ r) = some (nextS s n p, r) := by
    unfold stepS
    rw [e1]
    simp only
    rw [if_pos ⟨trivial, hl⟩, e2, e3]
    simp [hp]
  have hlen : (fieldB n v ++ r).length = (varB n).length + ((giveB v).length + r.length) := by rw [e]; simp
  cases hb : fieldB n v ++ r with
  | nil => rw [hb] at hlen; simp at hlen; omega
  | cons x b =>
    cases k with
    | zero => rw [hb] at hk; simp at hk
    | succ k =>
      simp only [parseS]
      rw [← hb, hst]
      simp only [Option.bind_some]
      exact h k (by omega)
theorem PS.skip {s : RS} {b : List Int} {X : Option RS} (h : PS s b X) : PS s ([] ++ b) X := h
/-- What is written is read as it was. -/
theorem ps_write {p : Par} (hr : rightP p) : PS rs0 (writeB p) (some ⟨p, 17, true, true, true⟩) := by
  obtain ⟨⟨r1, r2, r3⟩, ⟨n1, n2, n3⟩, l1, l2, l3⟩ := hr
  obtain ⟨idle, data, hg, ho, hr, goal, own, retry, chosen, vs⟩ := p
  simp only at r1 r2 r3 n1 n2 n3 l1 l2 l3
  have hch : ∀ v ∈ chosen :: vs, 0 ≤ v ∧ v ≤ 4294967295 := by
    intro v hv
    rcases List.mem_cons.1 hv with rfl | hv
    · unfold verOk at r3; omega
    · have := l2 v hv; unfold verOk at this; omega
  have s5 : ∀ l, l < 17 → PS ⟨⟨idle, data, hg, ho, hr, goal, own, retry, 0, []⟩, l, true, true, false⟩ (fieldB 17 (bigL (chosen :: vs)) ++ []) (some ⟨⟨idle, data, hg, ho, hr, goal, own, retry, chosen, vs⟩, 17, true, true, true⟩) := by
    intro l hl
    refine PS.field hl (by decide) (by rw [bigL_len]; simp; omega) (p := ⟨idle, data, hg, ho, hr, goal, own, retry, chosen, vs⟩) ?_ (PS.nil _)
    unfold setP
    rw [if_neg (by decide), if_neg (by decide), if_neg (by decide), if_neg (by decide), if_neg (by decide), if_pos rfl, if_pos ⟨by rw [bigL_len, List.length_cons]; omega, by rw [bigL_len]; omega⟩, versL_bigL hch]
    simp [nth]
  have s4 : ∀ l, l < 16 → PS ⟨⟨idle, data, hg, ho, false, goal, own, [], 0, []⟩, l, true, true, false⟩ (nameB 16 hr retry ++ (fieldB 17 (bigL (chosen :: vs)) ++ [])) (some ⟨⟨idle, data, hg, ho, hr, goal, own, retry, chosen, vs⟩, 17, true, true, true⟩) := by
    intro l hl
    cases hr with
    | true => exact PS.field hl (by decide) (by have := n3.1; omega) (p := ⟨idle, data, hg, ho, true, goal, own, retry, 0, []⟩) rfl (s5 16 (by decide))
    | false =>
      have : retry = [] := List.eq_nil_of_length_eq_zero (by have := n3.2; simpa using this)
      subst this
      exact PS.skip (s5 l (by omega))
  have s3 : ∀ l, l < 15 → PS ⟨⟨idle, data, hg, false, false, goal, [], [], 0, []⟩, l, true, true, false⟩ (nameB 15 ho own ++ (nameB 16 hr retry ++ (fieldB 17 (bigL (chosen :: vs)) ++ []))) (some ⟨⟨idle, data, hg, ho, hr, goal, own, retry, chosen, vs⟩, 17, true, true, true⟩) := by
    intro l hl
    cases ho with
    | true => exact PS.field hl (by decide) (by have := n2.1; omega) (p := ⟨idle, data, hg, true, false, goal, own, [], 0, []⟩) rfl (s4 15 (by decide))
    | false =>
      have : own = [] := List.eq_nil_of_length_eq_zero (by have := n2.2; simpa using this)
      subst this
      exact PS.skip (s4 l (by omega))
  have s2 : ∀ l, l < 4 → PS ⟨⟨idle, 0, hg, false, false, goal, [], [], 0, []⟩, l, true, false, false⟩ (fieldB 4 (varB data) ++ (nameB 15 ho own ++ (nameB 16 hr retry ++ (fieldB 17 (bigL (chosen :: vs)) ++ [])))) (some ⟨⟨idle, data, hg, ho, hr, goal, own, retry, chosen, vs⟩, 17, true, true, true⟩) := by
    intro l hl
    refine PS.field hl (by decide) (by rw [varB_len]; have := sizeV_le data; omega) (p := ⟨idle, data, hg, false, false, goal, [], [], 0, []⟩) ?_ (s3 4 (by decide))
    unfold setP
    rw [if_neg (by decide), if_neg (by decide), if_pos rfl, numV_varB r2]
    rfl
  have s1 : ∀ l, l < 1 → PS ⟨⟨0, 0, hg, false, false, goal, [], [], 0, []⟩, l, false, false, false⟩ (fieldB 1 (varB idle) ++ (fieldB 4 (varB data) ++ (nameB 15 ho own ++ (nameB 16 hr retry ++ (fieldB 17 (bigL (chosen :: vs)) ++ []))))) (some ⟨⟨idle, data, hg, ho, hr, goal, own, retry, chosen, vs⟩, 17, true, true, true⟩) := by
    intro l hl
    refine PS.field hl (by decide) (by rw [varB_len]; have := sizeV_le idle; omega) (p := ⟨idle, 0, hg, false, false, goal, [], [], 0, []⟩) ?_ (s2 1 (by decide))
    unfold setP
    rw [if_neg (by decide), if_pos rfl, numV_varB r1]
    rfl
  have s0 : PS rs0 (nameB 0 hg goal ++ (fieldB 1 (varB idle) ++ (fieldB 4 (varB data) ++ (nameB 15 ho own ++ (nameB 16 hr retry ++ (fieldB 17 (bigL (chosen :: vs)) ++ [])))))) (some ⟨⟨idle, data, hg, ho, hr, goal, own, retry, chosen, vs⟩, 17, true, true, true⟩) := by
    cases hg with
    | true => exact PS.field (by decide) (by decide) (by have := n1.1; omega) (p := ⟨0, 0, true, false, false, goal, [], [], 0, []⟩) rfl (s1 0 (by decide))
    | false =>
      have : goal = [] := List.eq_nil_of_length_eq_zero (by have := n1.2; simpa using this)
      subst this
      exact PS.skip (s1 (-1) (by decide))
  have e : writeB ⟨idle, data, hg, ho, hr, goal, own, retry, chosen, vs⟩ = nameB 0 hg goal ++ (fieldB 1 (varB idle) ++ (fieldB 4 (varB data) ++ (nameB 15 ho own ++ (nameB 16 hr retry ++ (fieldB 17 (bigL (chosen :: vs)) ++ []))))) := by simp [writeB]
  rw [e]
  exact s0
theorem write_read {p : Par} (hr : rightP p) (hl : (writeB p).length ≤ 500) : readP (writeB p) = (p, 0) := by
  unfold readP
  rw [if_neg (by omega), ps_write hr _ (Nat.le_refl _)]
  simp only
  rw [if_pos ⟨rfl, rfl, rfl, hr⟩]
end Go.Proofs.YtbfgoojpbhlboaaDoor

/- Plain: messages of a handshake and their bytes (layer 14). No condition. -/
set_option linter.unusedVariables false
set_option linter.unusedSimpArgs false
namespace Go.Proofs.YtbfgoojpbhlboaaDoor
open Go Go.RowKit

structure Hel where
  kind : Int
  random : Int
  share : Int
  ticket : Int
  mac : Int
  flag : Bool
  params : List Int
  name : ByteArray
  version : Int
  life : Int
/-- A message with nothing but what a kind has. -/
def hel0 (k : Int) : Hel := ⟨k, 0, 0, 0, 0, false, [], ByteArray.empty, 0, 0⟩
def onlyM (m : Hel) : Hel :=
  if m.kind = 1 then ⟨1, m.random, m.share, m.ticket, m.mac, m.flag, m.params, ByteArray.empty, 0, 0⟩
  else if m.kind = 2 then ⟨2, m.random, m.share, 0, 0, m.flag, [], ByteArray.empty, m.version, 0⟩
  else if m.kind = 4 then ⟨4, 0, 0, m.ticket, 0, false, [], ByteArray.empty, 0, m.life⟩
  else if m.kind = 8 then ⟨8, 0, 0, 0, 0, m.flag, m.params, ByteArray.empty, 0, 0⟩
  else if m.kind = 11 then ⟨11, 0, 0, 0, 0, false, [], m.name, 0, 0⟩
  else if m.kind = 15 ∨ m.kind = 20 then ⟨m.kind, 0, 0, 0, m.mac, false, [], ByteArray.empty, 0, 0⟩
  else hel0 m.kind
/-- Are two messages the same, but for their params? -/
def sameM (a b : Hel) : Prop := a.kind = b.kind ∧ a.random = b.random ∧ a.share = b.share ∧ a.ticket = b.ticket ∧ a.mac = b.mac ∧ a.flag = b.flag ∧ a.name = b.name ∧ a.version = b.version ∧ a.life = b.life
instance (a b : Hel) : Decidable (sameM a b) := by unfold sameM; infer_instance
def termOk (h : Int) : Prop := 1 ≤ h ∧ h ≤ 65536
instance (h : Int) : Decidable (termOk h) := inferInstanceAs (Decidable (_ ∧ _))
def paramsOk (b : List Int) : Prop := (readP b).2 = 0
instance (b : List Int) : Decidable (paramsOk b) := inferInstanceAs (Decidable (_ = _))
def restM (m : Hel) : Prop := sameM (onlyM m) m ∧ (onlyM m).params.length = m.params.length
instance (m : Hel) : Decidable (restM m) := inferInstanceAs (Decidable (_ ∧ _))
/-- What a kind's own fields must be. -/
def ownM (m : Hel) : Prop :=
  if m.kind = 1 then ((termOk m.random ∧ termOk m.share) ∧ paramsOk m.params) ∧ ((m.ticket = 0 ∧ m.mac = 0) ∨ (termOk m.ticket ∧ termOk m.mac))
  else if m.kind = 2 then ((termOk m.random ∧ termOk m.share) ∧ 1 ≤ m.version) ∧ m.version ≤ 4294967295
  else if m.kind = 4 then termOk m.ticket ∧ sizeV m.life ≠ 0
  else if m.kind = 8 then paramsOk m.params
  else if m.kind = 11 then 1 ≤ m.name.size ∧ m.name.size ≤ 50
  else if m.kind = 15 ∨ m.kind = 20 then termOk m.mac
  else False
instance (m : Hel) : Decidable (ownM m) := by unfold ownM; infer_instance
def rightM (m : Hel) : Prop := restM m ∧ ownM m
instance (m : Hel) : Decidable (rightM m) := inferInstanceAs (Decidable (_ ∧ _))
def flagB (b : Bool) : List Int := [if b then 1 else 0]
def nameL (s : ByteArray) : List Int := s.data.toList.map fun b => (b.toNat : Int)
theorem nameL_len (s : ByteArray) : (nameL s).length = s.size := by unfold nameL; simp
theorem nth_nameL (s : ByteArray) {j : Nat} (h : j < s.size) : nth (nameL s) j = ((s.data.toList.getD j 0).toNat : Int) := by
  have h1 := nth_lt (xs := nameL s) (j := j) (by rw [nameL_len]; exact h)
  have h2 : j < s.data.toList.length := by simpa using h
  unfold nameL at h1
  rw [List.getElem?_map, List.getElem?_eq_getElem h2] at h1
  simp only [Option.map_some, Option.some.injEq] at h1
  rw [show nameL s = s.data.toList.map fun x => (x.toNat : Int) from rfl, ← h1]; simp [List.getD, List.getElem?_eq_getElem h2]
/-- A right message's body. -/
def bodyB (m : Hel) : List Int :=
  if m.kind = 1 then numB m.random ++ numB m.share ++ flagB m.flag ++ flagB (m.ticket != 0) ++ numB m.ticket ++ giveB m.params ++ numB m.mac
  else if m.kind = 2 then numB m.random ++ numB m.share ++ bigB m.version ++ flagB m.flag
  else if m.kind = 4 then numB m.ticket ++ varB m.life
  else if m.kind = 8 then flagB m.flag ++ giveB m.params
  else if m.kind = 11 then nameL m.name
  else numB m.mac
/-- A message: its kind, its body's length, its body. -/
def msgB (kind : Int) (body : List Int) : List Int := if 0 ≤ kind ∧ kind ≤ 255 ∧ body.length ≤ 2000 then [kind, (body.length : Int) / 65536, (body.length : Int) / 256 % 256, (body.length : Int) % 256] ++ body else []
def writeM (m : Hel) : List Int := if rightM m then msgB m.kind (bodyB m) else []
theorem ownM_kind {m : Hel} (h : ownM m) : m.kind = 1 ∨ m.kind = 2 ∨ m.kind = 4 ∨ m.kind = 8 ∨ m.kind = 11 ∨ m.kind = 15 ∨ m.kind = 20 := by
  unfold ownM at h
  split at h
  · omega
  split at h
  · omega
  split at h
  · omega
  split at h
  · omega
  split at h
  · omega
  split at h
  · omega
  · exact h.elim
/-- What the reference asks of the fields that a kind does not have. -/
theorem rest_iff (m : Hel) : restM m ↔ ((m.kind ≠ 1 ∧ m.kind ≠ 2 → m.random = 0 ∧ m.share = 0) ∧ (m.kind ≠ 1 ∧ m.kind ≠ 4 → m.ticket = 0) ∧ (m.kind ≠ 1 ∧ m.kind ≠ 15 ∧ m.kind ≠ 20 → m.mac = 0)) ∧
    ((m.kind ≠ 1 ∧ m.kind ≠ 2 ∧ m.kind ≠ 8 → m.flag = false) ∧ (m.kind ≠ 1 ∧ m.kind ≠ 8 → m.params.length = 0) ∧ (m.kind ≠ 11 → m.name = ByteArray.empty) ∧ (m.kind ≠ 2 → m.version = 0) ∧ (m.kind ≠ 4 → m.life = 0)) := by
  obtain ⟨k, r, s, t, c, f, p, n, v, l⟩ := m
  unfold restM sameM onlyM hel0
  simp only
  by_cases h1 : k = 1
  · subst h1; simp [eq_comm]
  by_cases h2 : k = 2
  · subst h2; simp [eq_comm]; constructor <;> (intro h; simp_all)
  by_cases h4 : k = 4
  · subst h4; simp [eq_comm]; constructor <;> (intro h; simp_all)
  by_cases h8 : k = 8
  · subst h8; simp [eq_comm]; constructor <;> (intro h; simp_all)
  by_cases h11 : k = 11
  · subst h11; simp [eq_comm]; constructor <;> (intro h; simp_all)
  by_cases h15 : k = 15
  · subst h15; simp [eq_comm]; constructor <;> (intro h; simp_all)
  by_cases h20 : k = 20
  · subst h20; simp [eq_comm]; constructor <;> (intro h; simp_all)
  · simp [h1, h2, h4, h8, h11, h15, h20, eq_comm]; constructor <;> (intro h; simp_all)
end Go.Proofs.YtbfgoojpbhlboaaDoor
