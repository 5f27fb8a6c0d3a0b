/- Plain: params and their bytes (layer 7). No condition. -/
import Derived.Test.YtbfgoojpbhlboaaDoorCompact
import Derived.Test.YtbfgoojpbhlboaaDoorPureVar
set_option linter.unusedVariables false
set_option linter.unusedSimpArgs false
namespace Go.Proofs.YtbfgoojpbhlboaaDoor
open Go Go.RowKit

structure Par where
  idle : Int
  data : Int
  hg : Bool
  ho : Bool
  hr : Bool
  goal : List Int
  own : List Int
  retry : List Int
  chosen : Int
  vs : List Int
/-- May a number be a version? -/
def verOk (n : Int) : Prop := 1 ≤ n ∧ n < 4294967296
instance (n : Int) : Decidable (verOk n) := inferInstanceAs (Decidable (_ ∧ _))
def nameOk (there : Bool) (b : List Int) : Prop := b.length ≤ 20 ∧ (there = true ∨ b.length = 0)
instance (t : Bool) (b : List Int) : Decidable (nameOk t b) := inferInstanceAs (Decidable (_ ∧ _))
def rightP (p : Par) : Prop := (sizeV p.idle ≠ 0 ∧ sizeV p.data ≠ 0 ∧ verOk p.chosen) ∧ (nameOk p.hg p.goal ∧ nameOk p.ho p.own ∧ nameOk p.hr p.retry) ∧ p.vs.length ≤ 16 ∧ (∀ v ∈ p.vs, verOk v) ∧ p.vs.Nodup
instance (p : Par) : Decidable (rightP p) := by unfold rightP; infer_instance
def bigB (n : Int) : List Int := [n / 16777216 % 256, n / 65536 % 256, n / 256 % 256, n % 256]
def bigL (l : List Int) : List Int := l.flatMap bigB
def giveB (b : List Int) : List Int := varB b.length ++ b
def fieldB (n : Int) (b : List Int) : List Int := varB n ++ giveB b
def nameB (n : Int) (there : Bool) (b : List Int) : List Int := if there then fieldB n b else []
def writeB (p : Par) : List Int :=
  nameB 0 p.hg p.goal ++ fieldB 1 (varB p.idle) ++ fieldB 4 (varB p.data) ++ nameB 15 p.ho p.own ++ nameB 16 p.hr p.retry ++ fieldB 17 (bigL (p.chosen :: p.vs))
def writeP (p : Par) : List Int := if rightP p then writeB p else []
theorem bigB_len (n : Int) : (bigB n).length = 4 := rfl
theorem bigL_len : ∀ l : List Int, (bigL l).length = 4 * l.length
  | [] => rfl
  | a :: l => by
    have := bigL_len l
    unfold bigL at this ⊢
    rw [List.flatMap_cons, List.length_append, this, bigB_len, List.length_cons]
    omega
theorem bigL_snoc (l : List Int) (a : Int) : bigL (l ++ [a]) = bigL l ++ bigB a := by simp [bigL]
theorem bigB_byt (n : Int) : Byt (bigB n) := by
  intro x hx
  simp only [bigB, List.mem_cons, List.mem_nil_iff, or_false] at hx
  rcases hx with h | h | h | h <;> subst h <;> omega
theorem nth_get {l : List Int} {j : Nat} (h : j < l.length) : nth l j = l[j] := Option.some.inj ((nth_lt h).symm.trans (List.getElem?_eq_getElem h))
/-- What the reference's two loops ask. -/
theorem nodup_nth {l : List Int} : (∀ i, i < l.length → verOk (nth l i) ∧ ∀ k, k < i → nth l k ≠ nth l i) ↔ (∀ v ∈ l, verOk v) ∧ l.Nodup := by
  constructor
  · intro h
    refine ⟨fun v hv => ?_, ?_⟩
    · obtain ⟨i, hi, rfl⟩ := List.getElem_of_mem hv
      have := (h i hi).1
      rwa [nth_get hi] at this
    · rw [List.nodup_iff_pairwise_ne, List.pairwise_iff_getElem]
      intro i j hi hj hij
      have := (h j hj).2 i hij
      rwa [nth_get hi, nth_get hj] at this
  · rintro ⟨h1, h2⟩ i hi
    rw [List.nodup_iff_pairwise_ne, List.pairwise_iff_getElem] at h2
    refine ⟨by rw [nth_get hi]; exact h1 _ (List.getElem_mem hi), fun k hk => ?_⟩
    rw [nth_get hi, nth_get (by omega : k < l.length)]
    exact h2 k i (by omega) hi hk
end Go.Proofs.YtbfgoojpbhlboaaDoor
