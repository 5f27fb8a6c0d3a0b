/- The walk of SchedUnlike. No condition. -/
import Derived.Test.YtomopjpfdmpgpaaLaw15
import Derived.Test.YtomopjpfdmpgpaaRowRows
set_option linter.unusedVariables false
set_option linter.unusedSimpArgs false
namespace Go.Proofs.Ytomopjpfdmpgpaa
open Go Go.RowKit Go.WideMaps

/-- The first k messages, the last one first. -/
def msgs (L : List (List Int)) (k : Nat) : List ByteArray := ((L.take k).map strOfNums).reverse
theorem msgs_succ {L : List (List Int)} {k : Nat} {xs : List Int} (h : L[k]? = some xs) : msgs L (k + 1) = strOfNums xs :: msgs L k := by
  unfold msgs
  rw [List.take_add_one, h]
  simp
theorem strs_inj : ∀ {L M : List (List Int)}, (∀ xs ∈ L, Byt xs) → (∀ xs ∈ M, Byt xs) → L.map strOfNums = M.map strOfNums → L = M
  | [], [], _, _, _ => rfl
  | [], _ :: _, _, _, h => by simp at h
  | _ :: _, [], _, _, h => by simp at h
  | x :: L, y :: M, hL, hM, h => by
    simp only [List.map_cons, List.cons.injEq] at h
    rw [strOfNums_inj (hL x (by simp)) (hM y (by simp)) h.1, strs_inj (fun xs h => hL xs (by simp [h])) (fun xs h => hM xs (by simp [h])) h.2]
theorem msgs_inj {L M : List (List Int)} (hL : ∀ xs ∈ L, Byt xs) (hM : ∀ xs ∈ M, Byt xs) (h : msgs L L.length = msgs M M.length) : L = M := by
  unfold msgs at h
  rw [List.take_length, List.take_length] at h
  exact strs_inj hL hM (List.reverse_inj.1 h)
/-- Are two rows alike so far? -/
def likeT (L M : List (List Int)) (k : Nat) : Bool := decide (L.length = M.length ∧ L.take k = M.take k)
theorem likeT_zero (L M : List (List Int)) : likeT L M 0 = decide (L.length = M.length) := by simp [likeT]
theorem likeT_all (L M : List (List Int)) : likeT L M L.length = decide (L = M) := by
  unfold likeT
  by_cases h : L = M
  · subst h; simp
  · rw [decide_eq_false h, decide_eq_false]
    rintro ⟨h1, h2⟩
    rw [List.take_length, h1, List.take_length] at h2
    exact h h2
theorem likeT_succ {L M : List (List Int)} {k : Nat} {xs ys : List Int} (h : L[k]? = some xs) (h' : M[k]? = some ys) : likeT L M (k + 1) = (likeT L M k && decide (xs = ys)) := by
  unfold likeT
  rw [List.take_add_one, List.take_add_one, h, h']
  by_cases h1 : L.length = M.length
  · by_cases h2 : L.take k = M.take k
    · by_cases h3 : xs = ys
      · simp [h1, h2, h3]
      · simp [h1, h2, h3]
    · have : ¬ (L.take k ++ [xs] = M.take k ++ [ys]) := fun e => h2 (by
        have := congrArg List.length e
        simp at this
        exact (List.append_inj e (by
          have a := (List.getElem?_eq_some_iff.1 h).1
          have b := (List.getElem?_eq_some_iff.1 h').1
          simp; omega)).1)
      simp [h1, h2, this]
  · simp [h1]
theorem likeT_false {L M : List (List Int)} {k : Nat} (h : likeT L M k = false) : likeT L M (k + 1) = false := by
  unfold likeT at h ⊢
  rw [decide_eq_false_iff_not] at h ⊢
  rintro ⟨h1, h2⟩
  refine h ⟨h1, ?_⟩
  have := congrArg (List.take k) h2
  rw [List.take_take, List.take_take] at this
  rwa [Nat.min_eq_left (by omega)] at this

end Go.Proofs.Ytomopjpfdmpgpaa
